/-
  ONE LAW OF A CHAPTER: its program side is run by an interpreter that is proved sound; what it computes is shown to be what the law says. No conditions. Part 6 of 7.
-/
import Derived.Test.YtkcaaaiihhhnmaaGreatMCle
import Derived.Test.YtkcaaaiihhhnmaaGreatProg
import Derived.Shelf.Slices.Reverse
import Derived.Shelf.Sort.Plain
import Derived.Shelf.Slices.In.SortNone
import Derived.KernelRfl
import Derived.Test.YtkcaaaiihhhnmaaGreatRows
import Derived.WalkKit
set_option linter.unusedSimpArgs false
set_option linter.unusedVariables false
set_option linter.unnecessarySimpa false
section
namespace Go.Proofs.YtkcaaaiihhhnmaaGreat.Hn
open Go
def qz7 : List (List Nat) := [[], [], [], [31, 44, 45, 48, 75, 82, 85, 89, 93, 94, 97, 129, 161, 176, 188, 191], [26, 32, 39, 41, 49, 54, 58, 59, 116, 117, 120, 123, 126], [48, 56, 69, 76, 78, 81, 101, 108, 110, 113, 140, 154, 161, 164, 168, 171, 175, 178, 183, 230, 233, 237, 240, 241], [25, 29, 33, 34, 37, 41, 44], [27, 31, 33, 39, 49, 50, 57, 61, 66, 71, 75, 80, 83, 87, 89, 92, 116, 122, 129, 130, 133, 134], [23, 33, 38, 40, 48, 53, 54, 57, 58, 66, 70, 75, 80, 85, 88, 91, 95, 109, 112, 115, 122, 124, 127, 130, 133, 134], [20, 32, 33, 36, 39, 57, 64, 67], [52, 56, 58, 64, 72, 75, 82, 85, 88, 117, 127, 132, 136, 138, 141, 156, 164, 167, 196, 200, 202, 206, 208, 211, 218, 240, 250, 268, 274, 277], [22, 36, 37, 40, 43, 50, 51, 54, 55], [12, 15, 23, 26, 28, 32, 34, 42, 53, 56, 61, 65, 70, 74, 79, 83, 87], [16, 30, 31, 38, 47], [], [], [], [], [], [13], [], [], [18], [11, 31], [12, 32, 33, 38, 40], [], [12, 26, 34, 39, 41, 45, 50], [26, 43, 51, 72, 89, 97], [], [], [53, 55, 59], [29], [5, 10], [30, 38], [10], [16, 26, 34, 38, 40, 41, 45], [20, 27, 28, 32, 34, 35, 39], [8, 29], [14, 15, 19, 21, 22], [14, 15, 19, 21], [24, 31, 34, 38, 46], [], [], [35, 37, 57, 77, 87, 98, 113], [20, 30, 37], [], [32, 38, 40, 49, 50, 52, 61, 62], [18, 51], [8, 15], [11, 20, 22, 26, 27, 30], [11, 30, 44], [46, 57, 74, 89, 98, 99, 108, 109, 128, 129], [10], [22, 26], [65], [21, 22, 31], [], [], [34, 38], [], [], [], [15, 24, 25, 33, 34], [26, 41, 58, 66, 76, 79, 83], [12, 21, 23, 30, 38], [], [13, 22, 24, 32, 43, 51], [], [], [22, 23], [], [13], [6], [], [22, 23], [], [], [], [21, 81, 83], [], [118, 122, 125], [], [22, 23], [31, 36], [], [], [10, 16], [46, 49, 50, 54, 55], [37], [], [], [15, 31], [43], [32, 44, 55, 65, 76, 85], [], [], [], [], [18, 22, 23], [], [22, 23], [], [18], [22, 23], [], [], [9, 16], [], [], [], [14, 21], [5, 10], [], [], [6], [22, 23], [25], [], [18, 22, 23], [21], [6, 12], [28, 30, 33, 48], [18], [], [], [], [47, 48, 50, 55], [], [17], [], [], [], [], [17], [], [], [], [19], [17, 21, 24], [22, 23], [16], [], [], [], [8, 14], [11, 19, 33, 40, 57], [], [], [7], [], [], [], [42, 66, 91, 93, 94, 98, 102, 109, 114, 115, 122, 124, 125, 133], [], [17], [17], [17], [20], [], [], [17], [], [27], [], [33, 45, 47, 50, 53, 56], [], [], [83], [80, 167], [], [], [13, 17], [75], [], [32], [], [11, 19, 27, 35], [24, 25, 26, 27], [], [], [], [], [], [], [], [], [], [], [], [], [], [], [], [], []]
def qzm : List (List (Nat × List Nat)) := [[],
 [],
 [],
 [(0, [71, 72, 73, 74, 75, 76, 77, 78, 79, 80, 81]), (2, [10, 15, 99, 100, 101, 102, 103, 104, 105, 106, 107, 108, 109, 110, 111, 112, 113, 114, 115, 116, 117, 118, 119, 120, 121, 122, 123, 124, 125, 126, 127, 128, 129, 130, 131, 132, 133, 134, 135, 136, 137, 138, 139, 140, 141, 142, 143, 144, 145, 146, 147, 148]), (4, [10, 105, 106, 107, 108, 109, 110, 111, 112, 113, 114, 115, 116, 117, 118, 119, 120, 121, 122, 123, 124, 125, 126, 127, 128, 129, 130, 131, 132, 133, 134, 135, 136, 137, 138, 139, 140, 141, 142, 143, 144, 145, 146, 147, 148])],
 [],
 [(0, [9, 12, 13, 14, 15, 23, 96, 97, 98, 99, 100, 101, 102, 103, 104, 105, 106, 107, 108, 109, 110, 111, 112, 113, 114, 115, 116, 117, 118, 119, 120, 121, 122, 123, 124, 125, 126, 127]), (2, [9, 12, 23, 136, 137, 138, 139, 140, 141, 142, 143, 144, 145, 146, 147, 148, 149, 150, 151, 152, 153, 154, 155, 156, 157, 158, 159, 160])],
 [],
 [],
 [],
 [(0, [74, 75, 76, 77, 78, 79, 80, 81, 82, 83, 84, 85, 86, 87, 88, 89, 90, 91, 92, 93, 94, 95, 96, 97, 98, 99, 100, 101, 102, 103, 104, 105, 106, 107, 108, 109, 110])],
 [(0, [15, 16, 17, 18, 22, 27, 111, 112, 113, 114, 115, 116, 117, 118, 119, 120, 121, 122, 123, 124, 125, 126, 127, 128, 129, 130, 131, 132, 133, 134, 135, 136, 137, 138, 139, 140, 141, 142, 143, 144, 145, 146, 147, 148, 149]), (2, [15, 17, 22, 27, 28, 29, 30, 234, 235, 236, 237, 238, 239, 240, 241, 242, 243, 244, 245, 246, 247, 248, 249, 250, 251, 252, 253, 254, 255, 256, 257, 258, 259, 260, 261, 262, 263, 264, 265, 266, 267, 268, 269, 270, 271, 272, 273, 274, 275, 276, 277, 278, 279])],
 [],
 [],
 [(0, [10, 11, 12, 42, 43, 44, 45, 46, 47, 48, 49, 50, 51, 52, 53, 54, 55])],
 [],
 [],
 [(0, [6, 11, 12, 13, 14, 15, 16, 17, 18, 19, 20, 21, 22, 23, 24, 25, 26, 27, 28, 29, 30, 31, 32, 33, 34, 35, 36, 37, 38, 39, 40, 41, 42, 43, 44, 45, 46, 47, 48, 49, 50, 51, 52, 53, 54, 55, 56, 57, 58, 59, 60, 61, 62]), (2, [66, 67, 68, 69, 70, 71, 72, 73, 74, 75, 76, 77, 78, 79, 80, 81, 82, 83, 84, 85, 86, 87])],
 [(0, [6, 7, 8, 9, 10, 11, 12, 13, 14, 15, 16, 17, 18, 19, 20, 21, 22, 23, 24, 25, 26, 27, 28, 29, 30, 31, 32, 33]), (2, [13, 14, 15, 16, 17, 18, 19, 20, 21, 22, 23, 24, 25, 26, 27, 28, 29, 30, 31, 32, 33])],
 [],
 [],
 [(0, [4, 8, 9, 10, 11, 12, 13, 14, 15, 16, 17, 18, 19, 20, 21, 22, 23, 24, 25, 26, 27, 28, 29, 30, 31, 32, 33, 34, 35, 36, 37, 38, 39, 40, 41, 42, 43, 44, 45, 46, 47, 48, 49]), (2, [30, 31, 32, 33, 34, 35, 36, 37, 38, 39, 40, 41, 42, 43, 44, 45, 46, 47, 48, 49])],
 [(0, [7, 8, 9, 10, 11, 12, 13, 14, 15, 16, 17, 18, 19, 20, 21, 22, 23, 24, 25, 26, 27, 28])],
 [],
 [(0, [5, 6, 7, 8, 9, 10, 11, 12, 13, 14, 15, 16, 17, 18, 19, 20, 21, 22, 23, 24, 25, 26, 27, 28, 29, 30])],
 [],
 [],
 [(0, [8, 9, 10, 11, 30, 31, 32, 33, 34, 35, 36, 37, 38, 39, 40, 41, 42, 43, 44, 45, 46, 47, 48, 49, 50, 51])],
 [(0, [5, 6, 13, 14, 15, 16, 17, 18, 19, 20, 21, 22, 23, 24, 25, 26, 27, 28, 29, 30, 31, 32, 33, 34, 35, 36, 37, 38, 39, 40, 41, 42, 43, 44, 45, 46, 47, 48, 49, 50, 51, 52, 53, 54, 55, 56, 57, 58, 59, 60, 61, 62, 63, 64, 65, 66, 67, 68, 69, 70, 71, 72, 73, 74, 75, 76, 77, 78, 79, 80, 81, 82, 83, 84, 85, 86, 87, 88, 89, 90, 91, 92, 93, 94, 95, 96, 97]), (2, [27, 28, 29, 30, 31, 32, 33, 34, 35, 36, 37, 38, 39, 40, 41, 42, 43]), (4, [52, 53, 54, 55, 56, 57, 58, 59, 60, 61, 62, 63, 64, 65, 66, 67, 68, 69, 70, 71, 72, 73, 74, 75, 76, 77, 78, 79, 80, 81, 82, 83, 84, 85, 86, 87, 88, 89])],
 [(0, [6, 10, 11, 12, 13, 14, 15, 16, 17, 18, 19, 20, 21, 22, 23, 24, 25, 26, 27, 28, 29, 30, 31, 32, 33, 34, 35, 36, 37, 38, 39, 40, 41, 42, 43, 44, 45, 46, 47, 48, 49, 50, 51, 52, 53, 54]), (2, [41, 42, 43, 44, 45, 46, 47, 48, 49, 50, 51, 52, 53, 54])],
 [(0, [11, 12, 13, 14, 15, 16, 17, 18, 19, 20, 21, 22, 23, 24, 25])],
 [(0, [9, 10, 11, 12, 13, 14, 15, 16, 17, 18, 19, 20, 21, 22, 23, 24, 25, 26, 27, 28, 29, 30, 31, 32, 33, 34, 35, 36, 37, 38, 39, 40, 41, 42, 43, 44, 45, 46, 47, 48, 49, 50, 51, 52, 53, 54, 55, 56, 57, 58]), (2, [21, 22, 23, 24, 25, 26, 27, 28, 29, 30, 31, 32, 33, 34, 35, 36, 37, 38, 39, 40, 41, 42, 43, 44, 45, 46, 47, 48, 49, 50, 51, 52])],
 [(0, [6, 7, 8, 9, 10, 11, 12, 13, 14, 15, 16, 17, 18, 19, 20, 21, 22, 23, 24, 25, 26, 27, 28, 29])],
 [],
 [(0, [7, 8, 9, 10, 11, 12, 13, 14, 15, 16, 17, 18, 19, 20, 21, 22, 23, 24, 25, 26, 27, 28, 29, 30, 31, 32, 33, 34, 35, 36, 37])],
 [],
 [(0, [9, 10, 20, 21, 22, 23, 24, 25, 26, 27, 28, 29, 30, 31, 32, 33, 34, 35, 36, 37, 38, 39, 40, 41, 42, 43, 44])],
 [(0, [7, 8, 9, 10, 14, 15, 16, 17, 18, 19, 20, 21, 22, 23, 24, 25, 26, 27, 28, 29, 30, 31, 32, 33, 34, 35, 36, 37, 38])],
 [],
 [],
 [],
 [(0, [10, 11, 12, 28, 29, 30, 31, 32, 33, 34, 35, 36, 37, 38, 39, 40, 41])],
 [],
 [],
 [(0, [11, 12, 13, 14, 15, 45, 46, 47, 48, 49, 50, 51, 52, 53, 54, 55, 56, 57, 58, 59, 60, 61, 62, 63, 64, 65, 66, 67, 68, 69, 70, 71, 72, 73, 74, 75, 76, 77, 78, 79, 80, 81, 82, 83, 84, 85, 86, 87, 88, 89, 90, 91, 92, 93, 94, 95, 96, 97, 98, 99, 100, 101, 102, 103, 104, 105, 106, 107, 108, 109, 110, 111, 112, 113, 114, 115, 116, 117, 118, 119]), (2, [58, 59, 60, 61, 62, 63, 64, 65, 66, 67, 68, 69, 70, 71, 72, 73, 74, 75, 76]), (4, [11, 14, 15, 81, 82, 83, 84, 85, 86, 87, 88, 89, 90, 91, 92, 93, 94, 95, 96, 97, 98, 99, 100, 101, 102, 103, 104, 105, 106, 107, 108, 109, 110, 111, 112, 113, 114, 115, 116, 117, 118, 119])],
 [(0, [9, 10, 14, 15, 16, 17, 18, 19, 20, 21, 22, 23, 24, 25, 26, 27, 28, 29, 30, 31, 32])],
 [(0, [22, 23, 24, 25, 26, 27, 28, 29, 30, 31, 32, 33, 34, 35]), (2, [36, 37, 38, 39, 40, 41, 42, 43, 44, 45, 46, 47, 48, 49, 50, 51, 52, 53, 54, 55, 56, 57, 58, 59, 60, 61, 62, 63, 64, 65, 66, 67, 68, 69, 70]), (4, [71, 72, 73, 74, 75, 76, 77, 78, 79, 80, 81, 82, 83, 84])],
 [],
 [(0, [10, 11, 12, 13, 14, 15, 16, 17, 18, 19, 20, 21, 22, 23, 24, 25, 26, 27, 28, 29, 30, 31, 32, 33, 34, 35, 36, 37, 38, 39, 40, 41, 42]), (2, [43, 44, 45, 46, 47, 48, 49, 50, 51, 52, 53, 54, 55, 56, 57, 58, 59, 60])],
 [],
 [],
 [],
 [(0, [32, 33, 34, 35, 36, 37, 38, 39, 40, 41, 42, 43, 44, 45, 46, 47, 48, 49, 50, 51, 52, 53, 54, 55, 56, 57]), (2, [6, 7, 8, 9, 58, 59, 60, 61, 62, 63, 64, 65, 66, 67, 68, 69, 70, 71, 72, 73, 74, 75, 76, 77, 78, 79, 80, 81, 82, 83, 84, 85, 86, 87, 88, 89, 90, 91, 92, 93, 94, 95, 96, 97, 98, 99, 100, 101, 102, 103, 104, 105, 106, 107, 108, 109]), (4, [75, 76, 77, 78, 79, 80, 81, 82, 83, 84, 85, 86, 87, 88, 89]), (6, [11, 110, 111, 112, 113, 114, 115, 116, 117, 118, 119, 120, 121, 122, 123, 124, 125, 126, 127, 128, 129])],
 [],
 [(0, [7, 8, 9, 10, 11, 12, 13, 14, 15, 16, 17, 18, 19, 20, 21, 22, 23, 24, 25])],
 [(0, [21, 22, 23, 24, 25, 26, 27, 28, 29, 30, 31, 32, 33, 34, 35, 36, 37]), (2, [38, 39, 40, 41, 42, 43, 44, 45, 46, 47, 48, 49, 50, 51, 52, 53, 54, 55, 56, 57, 58, 59, 60, 61, 62, 63, 64])],
 [],
 [],
 [(0, [19, 20, 21, 22, 23, 24, 25, 26, 27, 28, 29, 30, 31, 32, 33, 34, 35, 36, 37, 38, 39, 40, 41, 42, 43, 44, 45, 46, 47, 48, 49, 50, 51])],
 [(0, [8, 9, 10, 11, 12, 13, 14, 15, 16, 17, 18, 19, 20, 21, 22, 23, 24, 25, 26, 27, 28, 29, 30, 31, 32, 33])],
 [],
 [],
 [(0, [6, 7, 8, 9, 10, 11, 12, 13, 14, 15, 16, 17])],
 [],
 [(0, [13, 14, 15, 16, 17, 18, 19, 20, 21, 22, 23, 24, 25, 26, 27, 28, 29, 30, 31, 32, 33, 34, 35, 36, 37, 38, 39, 40, 41]), (2, [10, 11, 12, 46, 47, 48, 49, 50, 51, 52, 53, 54, 55, 56, 57, 58, 59, 60, 61, 62, 63, 64, 65, 66, 67, 68, 69, 70, 71, 72, 73, 74, 75, 76, 77, 78, 79, 80, 81, 82, 83]), (4, [11, 12, 59, 60, 61, 62, 63, 64, 65, 66, 67, 68, 69, 70, 71, 72, 73, 74, 75, 76, 77, 78, 79, 80, 81, 82, 83])],
 [(0, [11, 27, 28, 29, 30, 31, 32, 33, 34, 35])],
 [],
 [(0, [35, 36, 37, 38, 39, 40, 41, 42, 43, 44, 45, 46, 47, 48])],
 [],
 [],
 [(0, [6, 7, 8, 12, 13, 14, 15, 16, 17, 18, 19, 20, 21, 22, 23, 24])],
 [],
 [(0, [4, 8, 9, 10, 11, 12, 13, 14])],
 [],
 [],
 [(0, [6, 7, 8, 12, 13, 14, 15, 16, 17, 18, 19, 20, 21, 22, 23, 24])],
 [],
 [],
 [],
 [(0, [11, 12, 61, 62, 63, 64, 65, 66, 67, 68, 69, 70, 71, 72, 73, 74, 75, 76, 77, 78, 79, 80])],
 [],
 [(0, [11, 83, 84, 85, 86, 87, 88, 89, 90, 91, 92, 93, 94, 95, 96, 97, 98, 99, 100, 101, 102, 103, 104, 105, 106, 107, 108, 109, 110, 111, 112, 113, 114, 115, 116, 117, 118, 119, 120, 121])],
 [],
 [(0, [6, 7, 8, 12, 13, 14, 15, 16, 17, 18, 19, 20, 21, 22, 23, 24])],
 [(0, [9, 26, 27, 28, 29, 30, 31, 32, 33, 34, 35])],
 [],
 [],
 [],
 [(0, [11, 12, 20, 21, 22, 23, 24, 25, 26, 27, 28, 29, 30, 31, 32, 33]), (2, [13, 14, 41, 42, 43, 44, 45, 46, 47, 48, 49, 50, 51, 52, 53])],
 [(0, [4, 5, 14, 15, 16, 17, 18, 19, 20, 21, 22, 23, 24, 25, 26, 27, 28, 29, 30, 31, 32, 33, 34, 35, 36, 37, 38, 39, 40, 41, 42, 43, 44, 45, 46, 47, 48, 49, 50, 51, 52, 53, 54])],
 [(0, [6, 7, 8, 9, 10, 11, 12, 13, 14, 15, 16, 17])],
 [],
 [],
 [],
 [(0, [9, 10, 11, 12, 13, 20, 21, 22, 23, 24, 25, 26, 27, 28, 29, 30, 31, 32, 33, 34, 35, 36, 37, 38, 39, 40, 41, 42, 43, 44, 45, 46, 47, 48, 49, 50, 51, 52, 53, 54, 55, 56, 57, 58, 59, 60, 61, 62, 63, 64, 65, 66, 67, 68, 69, 70, 71, 72, 73, 74, 75, 76, 77, 78, 79, 80, 81, 82, 83, 84, 85, 86, 87, 88, 89, 90]), (2, [33, 34, 35, 36, 37, 38, 39, 40, 41, 42, 43, 44, 45, 46, 47, 48, 49, 50, 51, 52]), (4, [9, 12, 13, 59, 60, 61, 62, 63, 64, 65, 66, 67, 68, 69, 70, 71, 72, 73, 74, 75, 76, 77, 78, 79, 80, 81, 82, 83, 84, 85, 86, 87, 88, 89, 90])],
 [],
 [],
 [],
 [],
 [(0, [6, 7, 8, 12, 13, 14, 15, 16, 17, 18, 19, 20, 21, 22, 23, 24])],
 [],
 [(0, [6, 7, 8, 12, 13, 14, 15, 16, 17, 18, 19, 20, 21, 22, 23, 24])],
 [],
 [],
 [(0, [6, 7, 8, 12, 13, 14, 15, 16, 17, 18, 19, 20, 21, 22, 23, 24])],
 [],
 [],
 [],
 [],
 [],
 [],
 [(0, [22, 23, 24, 25, 26, 27, 28, 29, 30, 31, 32, 33, 34, 35, 36])],
 [],
 [],
 [(0, [7, 8, 9, 10, 11, 12, 13, 14, 15, 16, 17, 18, 19, 20, 21, 22]), (2, [23, 24, 25, 26, 27, 28, 29, 30, 31, 32, 33, 34, 35, 36, 37, 38])],
 [],
 [(0, [6, 7, 8, 12, 13, 14, 15, 16, 17, 18, 19, 20, 21, 22, 23, 24])],
 [],
 [],
 [(0, [6, 7, 8, 12, 13, 14, 15, 16, 17, 18, 19, 20, 21, 22, 23, 24])],
 [],
 [],
 [(0, [9, 13, 14, 15, 16, 17, 18, 19, 20, 21, 22, 23, 24, 25, 26, 27, 28, 29, 30])],
 [],
 [],
 [],
 [(0, [6, 7, 8, 9, 10, 11, 12, 13, 14, 15, 16, 17, 18, 19])],
 [(0, [10, 11, 18, 19, 20, 21, 22, 23, 24, 25, 26, 27, 28, 29, 30, 31, 32, 33, 34, 35, 36, 37, 38, 39, 40, 41, 42, 43, 44, 45, 46, 47, 48, 49, 50, 51, 52, 53, 54])],
 [],
 [(0, [5, 9, 10, 11, 12, 13, 14, 15, 16, 17, 18])],
 [],
 [(0, [7, 8, 9, 10, 11, 12, 13, 14, 15, 16, 17, 18, 19, 20, 21, 22, 23, 24, 25, 26, 27])],
 [],
 [],
 [(0, [5, 9, 10, 11, 12, 13, 14, 15, 16, 17, 18])],
 [],
 [],
 [],
 [],
 [(0, [3, 4, 5, 9, 10, 11, 12, 13, 14, 15, 16, 17, 18, 19, 20, 21, 22, 23, 24, 25, 26, 27, 28, 29, 30, 31, 32, 33, 34, 35, 36])],
 [(0, [6, 7, 8, 12, 13, 14, 15, 16, 17, 18, 19, 20, 21, 22, 23, 24])],
 [],
 [],
 [],
 [],
 [],
 [(0, [8, 10, 29, 30, 31, 32, 33, 34, 35, 36, 37, 38, 39, 40, 41, 42, 43, 44, 45, 46, 47, 48]), (2, [8, 10, 53, 54, 55, 56, 57, 58, 59, 60, 61, 62, 63])],
 [(0, [5, 6, 11, 12, 13, 14, 15, 16, 17, 18, 19, 20, 21, 22, 23, 24, 25, 26, 27, 28, 29, 30, 31, 32, 33, 34, 35, 36, 37, 38])],
 [(0, [6, 7, 8, 9, 10, 11, 12, 13, 14, 15, 16, 17, 18, 19, 20, 21, 22, 23, 24, 25, 26, 27, 28, 29, 30, 31, 32, 33])],
 [],
 [],
 [],
 [],
 [(0, [10, 11, 12, 13, 14, 15, 16, 17, 18, 19, 20, 21, 22, 23, 24, 25, 26, 27, 28, 29, 30, 31, 32, 33, 34, 35, 36, 37, 38, 39, 40, 41, 42, 43, 44, 45, 46, 47, 48, 49, 50, 51, 52, 53, 54, 55, 56, 57, 58, 59, 60, 61, 62, 63, 64, 65, 66, 67, 68, 69, 70, 71, 72, 73, 74, 75, 76, 77, 78, 79, 80, 81, 82, 83, 84, 85, 86, 87, 88, 89, 90, 91, 92, 93, 94, 95, 96, 97, 98, 99, 100, 101, 102, 103, 104, 105, 106, 107, 108, 109, 110, 111, 112, 113, 114, 115, 116, 117, 118, 119, 120, 121, 122, 123, 124, 125, 126, 127, 128, 129, 130, 131, 132, 133])],
 [],
 [(0, [5, 9, 10, 11, 12, 13, 14, 15, 16, 17, 18])],
 [(0, [5, 9, 10, 11, 12, 13, 14, 15, 16, 17, 18])],
 [(0, [5, 9, 10, 11, 12, 13, 14, 15, 16, 17, 18])],
 [],
 [],
 [],
 [(0, [5, 9, 10, 11, 12, 13, 14, 15, 16, 17, 18])],
 [(0, [7, 10, 11, 12, 13, 14, 15, 16, 17, 18, 19, 20, 21, 22, 23, 24, 25, 26, 27, 28, 29, 30, 31, 32, 33, 34, 35, 36, 37, 38, 39, 40, 41, 42, 43, 44, 45, 46, 47, 48]), (2, [16, 17, 18, 19, 20, 21, 22, 23, 24, 25, 26, 27, 28, 29, 30, 31, 32, 33, 34, 35, 36, 37, 38, 39, 40, 41, 42, 43, 44, 45, 46, 47, 48])],
 [(0, [18, 19, 20, 21, 22, 23, 24, 25, 26]), (2, [29, 30, 31, 32, 33, 34, 35, 36, 37, 38, 39, 40, 41, 42, 43, 44, 45, 46, 47, 48, 49, 50, 51, 52, 53, 54, 55])],
 [(0, [10, 26, 27, 28, 29, 30, 31, 32, 33, 34, 35, 36, 37, 38, 39, 40, 41, 42, 43, 44, 45, 46, 47, 48, 49, 50, 51, 52, 53, 54, 55, 56, 57, 58, 59, 60, 61, 62, 63, 64])],
 [],
 [(0, [11, 12, 13, 14, 15, 16, 17, 18, 19, 20, 21, 22, 23, 24, 25, 26, 27, 28, 29, 30, 31])],
 [(0, [9, 10, 13, 14, 15, 16, 17, 18, 19, 20, 21, 22, 23, 24, 25, 26, 27, 28, 29, 30, 31, 32, 33, 34, 35, 36, 37, 38, 39, 40, 41, 42, 43, 44, 45, 46, 47, 48, 49, 50, 51, 52, 53, 54, 55, 56, 57, 58, 59, 60, 61, 62, 63, 64, 65, 66, 67, 68, 69, 70, 71, 72, 73, 74, 75, 76, 77, 78, 79, 80, 81, 82, 83, 84, 85, 86, 87, 88, 89, 90, 91, 92, 93, 94, 95, 96, 97, 98, 99, 100, 101, 102, 103, 104, 105, 106, 107, 108, 109, 110, 111, 112, 113, 114, 115, 116, 117, 118, 119, 120, 121, 122, 123, 124, 125, 126, 127, 128, 129, 130, 131, 132]), (2, [17, 18, 19, 20, 21, 22, 23, 24, 25, 26, 27, 28, 29, 30, 31, 32, 33, 34]), (4, [64, 65, 66, 67, 68, 69, 70, 71, 72, 73, 74, 75, 76, 77, 78, 79, 80, 81, 82, 83, 84, 85, 86, 87, 88, 89, 90, 91, 92, 93, 94]), (6, [101, 102, 103, 104, 105, 106, 107, 108, 109, 110, 111, 112, 113, 114, 115, 116, 117, 118, 119, 120, 121, 122, 123, 124, 125, 126, 127, 128, 129, 130, 131, 132])],
 [(0, [29, 30, 31, 32, 33, 34, 35, 36, 37, 38, 39, 40, 41, 42, 43, 44, 45, 46, 47, 48, 49, 50, 51, 52, 53, 54, 55, 56, 57, 58, 59, 60, 61, 62, 63, 64, 65, 66, 67, 68, 69, 70, 71, 72, 73, 74, 75, 76, 77, 78, 79, 80, 81, 82]), (2, [29, 30, 31, 32, 33, 34, 35, 36, 37, 38, 39, 40, 41, 42, 43, 44, 45]), (4, [46, 47, 48, 49, 50, 51, 52, 53, 54, 55, 56, 57, 58, 59, 60, 61])],
 [(0, [30, 31, 32, 33, 34, 35, 36, 37, 38, 39, 40, 41, 42, 43, 44, 45]), (2, [46, 47, 48, 49, 50, 51, 52, 53, 54, 55, 56, 57, 58, 59, 60, 61, 62]), (4, [99, 100, 101, 102, 103, 104, 105, 106, 107, 108, 109, 110, 111, 112, 113, 114, 115, 116, 117, 118, 119, 120, 121, 122, 123, 124, 125, 126, 127, 128, 129, 130, 131, 132, 133, 134, 135, 136, 137, 138, 139, 140, 141, 142, 143, 144, 145, 146, 147, 148, 149, 150, 151, 152]), (6, [99, 100, 101, 102, 103, 104, 105, 106, 107, 108, 109, 110, 111, 112, 113, 114]), (8, [115, 116, 117, 118, 119, 120, 121, 122, 123, 124, 125, 126, 127, 128, 129, 130, 131])],
 [],
 [],
 [(0, [5, 9, 10, 11, 12, 13, 14, 15, 16])],
 [(0, [9, 11, 12, 13, 14, 15, 16, 17, 18, 19, 20, 21, 22, 23, 24, 25, 26, 27, 28, 29, 30, 31, 32, 33, 34, 35, 36, 37, 38, 39, 40, 41, 42, 43, 44, 45, 46, 47, 48, 49, 50, 51, 52, 53, 54, 55, 56, 57, 58, 59, 60, 61, 62, 63, 64, 65, 66, 67, 68, 69, 70, 71, 72, 73, 74, 75])],
 [],
 [],
 [],
 [],
 [],
 [],
 [],
 [],
 [],
 [],
 [],
 [],
 [],
 [],
 [],
 [],
 [],
 [],
 [],
 [],
 [],
 []]
def qzR : List (List Nat) := [[], [], [], [], [], [], [], [], [], [], [], [], [19, 21, 22], [], [], [], [], [], [], [], [], [], [], [], [], [], [], [], [], [], [], [], [], [], [], [], [], [], [], [], [], [], [], [40, 44, 108, 112], [], [], [], [], [], [], [], [], [], [], [], [], [], [], [], [], [], [], [], [], [], [], [], [], [], [], [], [], [], [], [], [], [], [], [], [], [], [], [], [], [], [], [], [], [], [], [], [], [], [], [], [], [], [], [], [], [], [], [], [], [], [], [], [], [], [], [], [], [], [], [], [], [], [], [], [], [], [], [], [], [], [], [], [], [], [], [14, 16, 26, 27], [], [], [], [], [], [], [], [], [], [], [], [], [], [], [], [], [], [], [], [], [], [], [], [], [], [], [], [], [], [], [33, 35, 47, 48], [33, 35, 49, 50], [47, 49, 63, 64], [], [14, 16, 26, 27], [42, 44, 56, 57, 79, 81, 93, 94, 117, 119, 131, 132], [11, 13, 23, 24, 65, 67, 77, 78], [12, 14, 24, 25, 66, 68, 78, 79, 81, 83, 93, 94, 135, 137, 147, 148, 153, 155, 165, 166], [], [], [], [53, 57, 73, 74], [], [], [], [], [], [], [], [], [], [], [], [], [], [], [], [], [], [], [], [], [], []]
def qxq : List Nat := []
def qzT : List Nat := [73]
def qz4 : List Nat := [195, 202, 211]
def qvK : List Nat := [81]
def qy7 : List (Nat × List (Nat × List Nat)) := [(66, [(14, [12, 35, 36, 37, 38, 39, 40, 41, 42, 43, 44, 45, 46, 47])]), (126, [(14, [9, 10, 11, 18, 19, 20, 21, 22, 23, 24, 25, 26, 27, 28, 29, 30, 31, 32, 33, 34, 35, 36, 37, 38, 41, 42, 43, 44, 45, 46, 47, 48, 49, 50, 51, 52, 53])])]
def qzC (f : Nat) : Option (List Int -> Option (List Int)) := if f = 127 then some Ab.qyy else if f = 130 then some Ab.qza else none
def qzF : List (List (Nat × List (Nat × Nat))) := [[],
 [],
 [],
 [(30, [(4, 10), (4, 16), (10, 16), (23, 29), (23, 35), (29, 35)])],
 [],
 [(10, [(9, 14)]), (16, [(10, 15)])],
 [],
 [(8, [(0, 1), (0, 3), (1, 3)])],
 [],
 [(5, [(0, 2)]), (12, [(0, 2)]), (21, [(4, 11), (4, 16), (11, 16), (4, 21), (11, 21), (16, 21), (4, 24), (4, 27), (11, 27), (16, 27), (21, 27), (24, 27)])],
 [(7, [(0, 1), (0, 3), (1, 3)]), (18, [(0, 1), (0, 5), (1, 5), (0, 10), (1, 10), (5, 10), (6, 10)]), (29, [(0, 1), (0, 3), (1, 3)]), (40, [(0, 1), (0, 5), (1, 5), (0, 10), (1, 10), (5, 10), (6, 10)]), (41, [(9, 14)])],
 [],
 [],
 [],
 [],
 [],
 [],
 [(7, [(3, 7), (3, 13), (7, 13)])],
 [],
 [],
 [],
 [],
 [],
 [(5, [(5, 10), (5, 15), (10, 15), (5, 16), (10, 16)])],
 [],
 [],
 [],
 [(13, [(4, 9)]), (22, [(4, 11), (4, 14)])],
 [(13, [(3, 7)])],
 [(6, [(3, 7)])],
 [(9, [(14, 19), (14, 22)])],
 [(4, [(9, 14)])],
 [],
 [],
 [],
 [],
 [],
 [(2, [(1, 4), (1, 7), (4, 7)])],
 [],
 [],
 [],
 [],
 [],
 [(2, [(1, 5)]), (18, [(0, 5), (0, 11), (5, 11), (7, 11)])],
 [(6, [(0, 1), (0, 5), (1, 5), (0, 10), (1, 10), (5, 10), (6, 10)])],
 [],
 [],
 [(5, [(1, 3), (1, 7), (1, 9), (3, 9), (7, 9), (1, 13), (3, 13), (7, 13), (1, 14), (3, 14), (7, 14), (1, 16), (3, 16), (7, 16), (9, 16), (13, 16), (14, 16), (1, 20), (3, 20), (7, 20), (9, 20), (13, 20), (14, 20), (1, 21), (3, 21), (7, 21)]), (9, [(1, 3), (1, 6), (1, 7)])],
 [],
 [],
 [],
 [(10, [(1, 5), (1, 8)]), (21, [(1, 7), (5, 7)]), (32, [(1, 6), (4, 6)])],
 [],
 [],
 [],
 [],
 [],
 [(10, [(4, 9)])],
 [(5, [(4, 6)]), (7, [(4, 6)])],
 [],
 [],
 [],
 [],
 [(4, [(0, 4)]), (6, [(6, 11)]), (13, [(0, 4)]), (18, [(0, 4)])],
 [],
 [],
 [],
 [],
 [],
 [],
 [(1, [(2, 5), (2, 8), (5, 8), (2, 11), (5, 11), (8, 11), (2, 17), (5, 17), (8, 17), (11, 17), (13, 17), (14, 17), (2, 20), (5, 20), (8, 20), (11, 20), (13, 20), (14, 20), (17, 20), (25, 28)])],
 [],
 [],
 [],
 [],
 [],
 [],
 [],
 [(8, [(0, 1), (0, 3), (1, 3), (2, 3), (0, 4), (1, 4), (2, 4), (3, 4)])],
 [],
 [(8, [(1, 3), (1, 8), (3, 8), (1, 10), (3, 10), (8, 10), (1, 14), (3, 14), (8, 14), (10, 14), (1, 16), (3, 16), (8, 16), (10, 16), (14, 16), (1, 21), (3, 21), (8, 21), (10, 21), (14, 21), (16, 21), (1, 23), (3, 23), (8, 23), (10, 23), (14, 23), (16, 23), (21, 23)])],
 [],
 [],
 [(2, [(0, 2), (0, 5), (2, 5), (3, 5)])],
 [],
 [],
 [],
 [(6, [(2, 5), (5, 6)])],
 [],
 [],
 [],
 [],
 [(5, [(0, 2), (0, 4), (2, 4), (0, 5), (0, 8), (0, 11), (8, 11), (0, 14), (8, 14), (11, 14), (0, 15)])],
 [(17, [(0, 5), (0, 11), (5, 11), (7, 11)])],
 [],
 [],
 [],
 [],
 [],
 [],
 [],
 [(1, [(0, 2), (0, 5), (2, 5), (3, 5), (0, 6), (2, 6), (3, 6), (5, 6), (0, 9), (2, 9), (3, 9), (5, 9), (6, 9), (7, 9), (0, 10), (2, 10), (3, 10), (5, 10), (6, 10), (7, 10), (9, 10)])],
 [(2, [(1, 5), (3, 5)])],
 [],
 [],
 [(1, [(1, 4), (2, 4)])],
 [(2, [(0, 5), (0, 7), (0, 8), (0, 10)])],
 [],
 [],
 [],
 [(10, [(1, 3), (1, 6)])],
 [],
 [],
 [],
 [],
 [],
 [(5, [(1, 10), (2, 10), (5, 10), (6, 10), (8, 10), (1, 12), (2, 12), (5, 12), (6, 12), (8, 12), (10, 12)])],
 [],
 [],
 [(1, [(2, 7), (4, 7), (5, 7)])],
 [],
 [],
 [],
 [],
 [],
 [],
 [(6, [(0, 1), (0, 2), (1, 2), (0, 5)]), (7, [(0, 1), (0, 2), (1, 2), (0, 5)])],
 [],
 [],
 [],
 [(3, [(7, 11)])],
 [],
 [],
 [],
 [],
 [],
 [],
 [(1, [(1, 3), (2, 3), (1, 5), (2, 5), (1, 7), (2, 7), (3, 7), (5, 7)])],
 [],
 [],
 [(1, [(1, 2), (1, 7), (2, 7), (4, 7), (5, 7), (1, 15), (2, 15), (4, 15), (5, 15), (7, 15), (8, 15), (11, 15), (12, 15), (14, 15), (1, 18), (2, 18), (4, 18), (5, 18), (7, 18), (8, 18), (11, 18), (12, 18), (14, 18), (15, 18)])],
 [],
 [],
 [],
 [],
 [(8, [(1, 3), (1, 4), (1, 8), (3, 8), (4, 8), (1, 10), (3, 10), (4, 10), (8, 10), (8, 11)]), (13, [(1, 2), (1, 3)])],
 [(3, [(6, 7), (14, 18), (17, 18)])],
 [(6, [(6, 11)])],
 [],
 [],
 [],
 [],
 [(17, [(7, 11)])],
 [],
 [],
 [(4, [(0, 4)])],
 [],
 [(1, [(1, 6), (3, 6), (4, 6)])],
 [(1, [(1, 4), (2, 4)])],
 [],
 [],
 [(4, [(7, 12)]), (6, [(9, 13)])],
 [(10, [(11, 15)])],
 [(10, [(11, 15)])],
 [],
 [(3, [(7, 11)])],
 [(5, [(7, 12)]), (11, [(9, 13)]), (16, [(3, 8)]), (17, [(9, 13)]), (22, [(3, 8)]), (23, [(9, 13)])],
 [(1, [(7, 11)]), (3, [(7, 11)]), (5, [(7, 11)]), (8, [(7, 11)])],
 [(1, [(7, 11)]), (3, [(7, 11)]), (5, [(7, 11)]), (8, [(7, 11)]), (10, [(7, 11)]), (13, [(7, 11)]), (15, [(7, 11)]), (18, [(7, 11)]), (21, [(7, 11)])],
 [],
 [],
 [],
 [(3, [(10, 17)]), (5, [(5, 11)]), (6, [(13, 19)])],
 [],
 [(1, [(2, 5)]), (2, [(2, 5)]), (3, [(2, 5)])],
 [],
 [],
 [(1, [(3, 7)])],
 [],
 [],
 [],
 [],
 [],
 [],
 [],
 [],
 [],
 [],
 [],
 [],
 [],
 [],
 [],
 [],
 []]
def qzw : List (Nat × List (Nat × Nat)) -> Nat -> List (Nat × Nat)
 | [], _ => []
 | (k, c) :: l, b => if k = b then c else qzw l b
def look : List (Nat × List Nat) -> Nat -> List Nat
 | [], _ => []
 | (k, c) :: l, b => if k = b then c else look l b
def qzd : List (Nat × List (Nat × List Nat)) -> Nat -> List (Nat × List Nat)
 | [], _ => []
 | (k, c) :: l, b => if k = b then c else qzd l b
def hints : Ab.Hints := {
 take := fun f t => (qz7.getD f []).contains t
 clear := fun f b => look (qzm.getD f []) b
 precise := fun f => qxq.contains f
 pairs := fun f b => qzw (qzF.getD f []) b
 link := fun f t => (qzR.getD f []).contains t
 qjl := fun f => qzT.contains f
 mapT := fun t => qz4.contains t
 born := fun f => qvK.contains f
 turn := qzC
 pre := fun f b => look (qzd qy7 f) b }
end Go.Proofs.YtkcaaaiihhhnmaaGreat.Hn
end
section
namespace Go.Ab
open Go
variable {P : Program}
def qrQ : Value -> Value -> Bool
 | .int k n, .int k' n' => decide (k = k') && decide (n = n')
 | .bool b, .bool b' => b == b'
 | .slice none 0 0, .slice none 0 0 => true
 | .string s, .string s' => decide (s.data.toList = s'.data.toList)
 | _, _ => false
mutual
def V.same : V -> V -> Bool
 | .val a, .val b => qrQ a b
 | .sl f c l, .sl f' c' l' => decide (f = f') && c == c' && sameL l l'
 | .agg l, .agg l' => sameL l l'
 | .tuple l, .tuple l' => sameL l l'
 | _, _ => false
def sameL : List V -> List V -> Bool
 | [], [] => true
 | x :: l, y :: l' => x.same y && sameL l l'
 | _, _ => false
end
theorem qtX {a b : Value} (h : qrQ a b = true) : a = b := by
 unfold qrQ at h;split at h
 ·simp_all
 ·simp_all
 ·rfl
 ·rename_i s s';have h1 := of_decide_eq_true h;obtain ⟨⟨l⟩⟩ := s;obtain ⟨⟨l'⟩⟩ := s';simp only at h1;rw [h1]
 ·cases h
mutual
theorem same_eq : ∀ (x y : V), x.same y = true -> x = y
 | .val a, y, h => by cases y <;> simp only [V.same] at h <;> first | (rw [qtX h]) | cases h
 | .sl f c l, y, h => by
  cases y <;> simp only [V.same] at h <;> try (cases h; done)
  simp only [qe, decide_eq_true_eq, beq_iff_eq] at h;rw [h.1.1, h.1.2, sameL_eq _ _ h.2]
 | .agg l, y, h => by
  cases y <;> simp only [V.same] at h <;> try (cases h; done)
  rw [sameL_eq _ _ h]
 | .tuple l, y, h => by
  cases y <;> simp only [V.same] at h <;> try (cases h; done)
  rw [sameL_eq _ _ h]
 | .undef, y, h | .ptr .., y, h | .cptr .., y, h | .fn .., y, h | .yld _, y, h | .mref _, y, h | .bsl .., y, h | .mp _, y, h | .iface .., y, h | .lp .., y, h | .room .., y, h => by cases y <;> simp [V.same] at h
theorem sameL_eq : ∀ (l m : List V), sameL l m = true -> l = m
 | [], [], _ => rfl
 | [], y :: m, h => by simp [sameL] at h
 | x :: l, [], h => by simp [sameL] at h
 | x :: l, y :: m, h => by
  simp only [sameL, qe] at h;rw [same_eq x y h.1, sameL_eq l m h.2]
end
structure Ran where
 g : FuncId
 args : List V
 r : V
def qyF (t : List Ran) (g : FuncId) : Option (List V -> Option V) :=
 if t.any (fun e => decide (e.g = g)) then some (fun args => (t.find? fun e => decide (e.g = g) && sameL e.args args).map (·.r)) else none
theorem qwE {t : List Ran} (h : ∀ e ∈ t, qbP P e.g e.args [] e.r []) : ∀ g f args r, qyF t g = some f -> f args = some r -> qbP P g args [] r [] := by
 intro g f args r hf hr;unfold qyF at hf;split at hf
 ·cases hf;obtain ⟨e, he, rfl⟩ := qc.1 hr;have h1 := List.find?_some he;simp only [qe, decide_eq_true_eq] at h1;rw [<- h1.1, <- sameL_eq _ _ h1.2];exact h e (List.mem_of_find?_eq_some he)
 ·cases hf
theorem qn7 {H : Hints} (hm : P.follows .mixedOrders = true) (qb2 : qiY P H) {t : List Ran} (ht : ∀ e ∈ t, qbP P e.g e.args [] e.r []) (n : Nat) (e : Ran)
  (h : (match (qq9 P H (qyF t) n).call e.g e.args [] with | some (r, []) => r.same e.r | _ => false) = true) : qbP P e.g e.args [] e.r [] := by
 split at h
 ·rename_i r hr;rw [<- same_eq _ _ h];exact (qr3 hm qb2 (qwE ht) n).call _ _ _ _ _ hr
 ·cases h
end Go.Ab
end
section
namespace Go.Proofs.YtkcaaaiihhhnmaaGreat.Tn
open Go Go.Ab Go.Sort
def qxs : Go.Shelf.Ren := ⟨fun | 112 => 130 | n => n, fun | 28 => 46 | 3 => 3 | 4 => 4 | 0 => 0 | n => n, fun n => n⟩
theorem qAg : Lays.n112 Tryz.prog qxs where
 mixed := by kernel_rfl
 f112 := Tryz.func130.trans (congrArg some (by kernel_rfl))
 t0 := Tryz.underlying0
 a0 := Tryz.isAgg0
 z0 := Tryz.sizeOf0
 v0 := Tryz.zeroValue0
 t3 := Tryz.underlying3
 a3 := Tryz.isAgg3
 z3 := Tryz.sizeOf3
 v3 := Tryz.zeroValue3
 t4 := Tryz.underlying4
 a4 := Tryz.isAgg4
 z4 := Tryz.sizeOf4
 v4 := Tryz.zeroValue4
 t28 := Tryz.underlying46
 a28 := Tryz.isAgg46
 z28 := Tryz.sizeOf46
 v28 := Tryz.zeroValue46
def qxI : Go.Shelf.Ren := ⟨fun | 189 => 127 | 125 => 153 | 257 => 152 | 128 => 169 | 129 => 170 | 294 => 161 | 295 => 162 | 296 => 163 | 297 => 164 | 298 => 165 | 299 => 166 | 216 => 148 | 300 => 167 | 301 => 168 | 328 => 172 | 329 => 173 | 330 => 174 | 331 => 175 | 332 => 176 | 215 => 159 | 343 => 177 | n => n, fun | 28 => 46 | 3 => 3 | 46 => 208 | 0 => 0 | 51 => 226 | 53 => 228 | 4 => 4 | 183 => 220 | 182 => 219 | 131 => 96 | 5 => 5 | 9 => 9 | 218 => 230 | 222 => 234 | 228 => 236 | 229 => 51 | n => n, fun n => n⟩
theorem qAh : Lays.n189 Tryz.prog qxI where
 mixed := by kernel_rfl
 f125 := Tryz.func153.trans (congrArg some (by kernel_rfl))
 f128 := Tryz.func169.trans (congrArg some (by kernel_rfl))
 f129 := Tryz.func170.trans (congrArg some (by kernel_rfl))
 f189 := Tryz.func127.trans (congrArg some (by kernel_rfl))
 f215 := Tryz.func159.trans (congrArg some (by kernel_rfl))
 f216 := Tryz.func148.trans (congrArg some (by kernel_rfl))
 f257 := Tryz.func152.trans (congrArg some (by kernel_rfl))
 f294 := Tryz.func161.trans (congrArg some (by kernel_rfl))
 f295 := Tryz.func162.trans (congrArg some (by kernel_rfl))
 f296 := Tryz.func163.trans (congrArg some (by kernel_rfl))
 f297 := Tryz.func164.trans (congrArg some (by kernel_rfl))
 f298 := Tryz.func165.trans (congrArg some (by kernel_rfl))
 f299 := Tryz.func166.trans (congrArg some (by kernel_rfl))
 f300 := Tryz.func167.trans (congrArg some (by kernel_rfl))
 f301 := Tryz.func168.trans (congrArg some (by kernel_rfl))
 f328 := Tryz.func172.trans (congrArg some (by kernel_rfl))
 f329 := Tryz.func173.trans (congrArg some (by kernel_rfl))
 f330 := Tryz.func174.trans (congrArg some (by kernel_rfl))
 f331 := Tryz.func175.trans (congrArg some (by kernel_rfl))
 f332 := Tryz.func176.trans (congrArg some (by kernel_rfl))
 f343 := Tryz.func177.trans (congrArg some (by kernel_rfl))
 t0 := Tryz.underlying0
 a0 := Tryz.isAgg0
 z0 := Tryz.sizeOf0
 v0 := Tryz.zeroValue0
 t3 := Tryz.underlying3
 a3 := Tryz.isAgg3
 z3 := Tryz.sizeOf3
 v3 := Tryz.zeroValue3
 t4 := Tryz.underlying4
 a4 := Tryz.isAgg4
 z4 := Tryz.sizeOf4
 v4 := Tryz.zeroValue4
 t5 := Tryz.underlying5
 a5 := Tryz.isAgg5
 z5 := Tryz.sizeOf5
 v5 := Tryz.zeroValue5
 t9 := Tryz.underlying9
 a9 := Tryz.isAgg9
 z9 := Tryz.sizeOf9
 v9 := Tryz.zeroValue9
 t28 := Tryz.underlying46
 a28 := Tryz.isAgg46
 z28 := Tryz.sizeOf46
 v28 := Tryz.zeroValue46
 t46 := Tryz.underlying208
 a46 := Tryz.isAgg208
 z46 := Tryz.sizeOf208
 v46 := Tryz.zeroValue208
 t51 := Tryz.underlying226
 a51 := Tryz.isAgg226
 z51 := Tryz.sizeOf226
 v51 := Tryz.zeroValue226
 t53 := Tryz.underlying228
 a53 := Tryz.isAgg228
 z53 := Tryz.sizeOf228
 v53 := Tryz.zeroValue228
 t131 := Tryz.underlying96
 a131 := Tryz.isAgg96
 z131 := Tryz.sizeOf96
 v131 := Tryz.zeroValue96
 t182 := Tryz.underlying219
 a182 := Tryz.isAgg219
 z182 := Tryz.sizeOf219
 v182 := Tryz.zeroValue219
 t183 := Tryz.underlying220
 a183 := Tryz.isAgg220
 z183 := Tryz.sizeOf220
 v183 := Tryz.zeroValue220
 t218 := Tryz.underlying230
 a218 := Tryz.isAgg230
 z218 := Tryz.sizeOf230
 v218 := Tryz.zeroValue230
 t222 := Tryz.underlying234
 a222 := Tryz.isAgg234
 z222 := Tryz.sizeOf234
 v222 := Tryz.zeroValue234
 t228 := Tryz.underlying236
 a228 := Tryz.isAgg236
 z228 := Tryz.sizeOf236
 v228 := Tryz.zeroValue236
 t229 := Tryz.underlying51
 a229 := Tryz.isAgg51
 z229 := Tryz.sizeOf51
 v229 := Tryz.zeroValue51
theorem enters {g : FuncId} {fn : Func} (hfn : Tryz.prog.funcs[g]? = some fn) (hb : fn.body.isSome = true) (hn : (fn.name == "runtime.NumGoroutine") = false) (args : Array Value) (w : World) : (callFunc g args).run Tryz.prog w = .ok (.enter g args) w := by
 have hbs : fn.body.isNone = false := by cases h : fn.body <;> simp_all
 simp only [callFunc, Sem.run_bind, run_program, Result.andThen_ok, hfn, hn, hbs, qf, if_false, Sem.run_pure]
theorem holds_of {w : World} {b off : Nat} {arr : Array Value} {ty : TypeId} {zs : List Int} (hw : w.heap[b]? = some (.cells arr ty (0, 0))) (hs : Seg w b off (zs.map (Value.int .i64))) : Holds (Value.int .i64) w b off zs.toArray := by
 intro j hj;have hj' : j < zs.length := by simpa using hj
 refine ⟨?_, ?_⟩
 ·have := hs j (.int .i64 zs[j]) (by simp [hj']);rw [this];simp [getElem!_pos, hj']
 ·simp [World.frozen?, hw]
theorem qje {w : World} {b off n : Nat} {arr : Array Value} {ty : TypeId} {zs : List Int} (os : Array Obj) (hw : w.heap[b]? = some (.cells arr ty (0, 0))) (hle : off + zs.length <= arr.size) :
  qx7 w b off (zs.map (Value.int .i64)) (grow (putRow (Value.int .i64) (Sort.ahead w n) b off zs.toArray) os) := by
 refine ⟨putRow (Value.int .i64) w b off zs.toArray, n, os, rfl, by simp [putRow, mapBlock], fun k hk => ?_, fun arr' ty' hw' => ?_, rfl, rfl, rfl⟩
 ·simp only [putRow, mapBlock, Array.getElem?_modify];rw [if_neg (Ne.symm hk)]
 ·rw [hw] at hw'; cases hw';simp only [putRow, mapBlock, Array.getElem?_modify, if_true, hw, Option.map_some, onCells];congr 2
  apply Array.ext_getElem?;intro i;have e1 : (Ab.rowAt arr off (zs.map (Value.int .i64)))[i]? = (Ab.rowAt arr off (zs.map (Value.int .i64))).toList[i]? := by simp
  rw [e1];unfold Ab.rowAt;rw [qhn (by simpa using hle)];unfold putCells;simp only [Array.getElem?_mapIdx, List.length_map, List.size_toArray];by_cases hi : off <= i /\ i < off + zs.length
  ·rw [if_pos hi];have hlt : i < arr.size := by omega
   have h2 : i - off < zs.length := by omega
   rw [Array.getElem?_eq_getElem hlt];simp only [Option.map_some, hi, and_self, if_true, List.getElem?_map, List.getElem?_eq_getElem h2];simp [getElem!_pos, h2]
  ·rw [if_neg hi];cases h3 : arr[i]? with
   | none =>
    have : arr.toList[i]? = none := by simpa using h3
    rw [this]; rfl
   | some x =>
    have : arr.toList[i]? = some x := by simpa using h3
    rw [this]; simp [hi]
theorem qzf : qs4 Tryz.prog 130 qza := by
 intro zs zs' hz;unfold qza at hz;split at hz
 ·rename_i hle;simp only [qb] at hz;subst hz;refine ⟨by simp, fun hne w b off cap arr ty hw hfit hs hcap => ?_, fun h0 w a cap => ?_⟩
  ·refine .inl ⟨enters Tryz.func130 (by kernel_rfl) (by kernel_rfl) _ _, ?_⟩;refine (Any.slices_Reverse_int qAg b off cap zs w (holds_of hw hs) (by omega)).mono ?_;rintro e w' ⟨rfl, n, rfl⟩;have h := qje (n := n) #[] hw (zs := zs.reverse) (by simpa using hfit);exact ⟨_, rfl, by simpa using h⟩
  ·refine .inl ⟨enters Tryz.func130 (by kernel_rfl) (by kernel_rfl) _ _, ?_⟩;refine (Any.slices_Reverse_int_empty qAg a cap w).mono ?_;rintro e w' ⟨rfl, rfl⟩;exact ⟨_, rfl, 0, #[], by simp⟩
 ·cases hz
theorem qmG (x : Int) : ∀ l : List Int, (qyI x l).Perm (x :: l)
 | [] => .refl _
 | y :: l => by
  unfold qyI;split
  ·exact .refl _
  ·exact ((qmG x l).cons y).trans (.swap x y l)
theorem qj1 : ∀ l : List Int, (qnX l).Perm l
 | [] => .refl _
 | x :: l => (qmG x _).trans ((qj1 l).cons x)
theorem qmo (x : Int) : ∀ l : List Int, l.Pairwise (· <= ·) -> (qyI x l).Pairwise (· <= ·)
 | [], _ => by simp [qyI]
 | y :: l, h => by
  unfold qyI;rw [List.pairwise_cons] at h;split
  ·rename_i hxy;refine List.pairwise_cons.2 ⟨fun z hz => ?_, List.pairwise_cons.2 h⟩;rcases List.mem_cons.1 hz with rfl | hz
   ·exact hxy
   ·exact Int.le_trans hxy (h.1 z hz)
  ·rename_i hxy;refine List.pairwise_cons.2 ⟨fun z hz => ?_, qmo x l h.2⟩;rcases List.mem_cons.1 ((qmG x l).mem_iff.1 hz) with rfl | hz
   ·omega
   ·exact h.1 z hz
theorem qkv : ∀ l : List Int, (qnX l).Pairwise (· <= ·)
 | [] => .nil
 | x :: l => qmo x _ (qkv l)
theorem qly : ∀ {l m : List Int}, l.Pairwise (· <= ·) -> m.Pairwise (· <= ·) -> l.Perm m -> l = m
 | [], m, _, _, h => (List.nil_perm.1 h).symm
 | x :: l, [], _, _, h => absurd (List.perm_nil.1 h) (by simp)
 | x :: l, y :: m, hl, hm, h => by
  rw [List.pairwise_cons] at hl hm;have h1 : x <= y := by
   rcases List.mem_cons.1 (h.mem_iff.2 (List.mem_cons_self : y ∈ y :: m)) with e | e
   ·omega
   ·exact hl.1 y e
  have h2 : y <= x := by
   rcases List.mem_cons.1 (h.mem_iff.1 (List.mem_cons_self : x ∈ x :: l)) with e | e
   ·omega
   ·exact hm.1 x e
  have e : x = y := by omega
  subst e;rw [qly hl.2 hm.2 (List.Perm.cons_inv h)]
theorem qxK (zs : List Int) : zs.mergeSort (fun x y => decide (x <= y)) = qnX zs := by
 refine qly ?_ (qkv zs) ((List.mergeSort_perm zs _).trans (qj1 zs).symm);have := List.pairwise_mergeSort (le := fun x y : Int => decide (x <= y)) (fun a b c h1 h2 => by simp only [decide_eq_true_eq] at *; omega) (fun a b => by simp only [Bool.or_eq_true, decide_eq_true_eq]; omega) zs;exact this.imp fun h => by simpa using h
theorem qyX : qs4 Tryz.prog 127 qyy := by
 intro zs zs' hz;unfold qyy at hz;split at hz
 ·rename_i hle;simp only [qb] at hz;subst hz;have hlen : (qnX zs).length = zs.length := (qj1 zs).length_eq;refine ⟨hlen, fun hne w b off cap arr ty hw hfit hs hcap => ?_, fun h0 w a cap => ?_⟩
  ·refine .inl ⟨enters Tryz.func127 (by kernel_rfl) (by kernel_rfl) _ _, ?_⟩;refine (Any.slices_Sort_int qAh b off cap zs w (holds_of hw hs) (Array.getElem?_eq_some_iff.1 hw).1 (by omega)).mono ?_;rintro e w' ⟨rfl, n, os, rfl⟩;rw [qxK];exact ⟨_, rfl, qje os hw (by rw [hlen]; exact hfit)⟩
  ·refine .inl ⟨enters Tryz.func127 (by kernel_rfl) (by kernel_rfl) _ _, ?_⟩;refine (Any.slices_Sort_int_none qAh a cap w).mono ?_;rintro e w' ⟨rfl, rfl⟩;exact ⟨_, rfl, 0, #[], by simp⟩
 ·cases hz
end Go.Proofs.YtkcaaaiihhhnmaaGreat.Tn
namespace Go.Proofs.YtkcaaaiihhhnmaaGreat
open Go Go.Ab
theorem turns : qoC Tryz.prog Hn.hints := by
 intro g F h;simp only [Hn.hints, Hn.qzC] at h;split at h
 ·rename_i e; subst e; cases h; exact Tn.qyX
 split at h
 ·rename_i e; subst e; cases h; exact Tn.qzf
 cases h
end Go.Proofs.YtkcaaaiihhhnmaaGreat
end
section
set_option maxRecDepth 100000
namespace Go.Proofs.YtkcaaaiihhhnmaaGreat.St0
open Go Go.Ab Go.Tx
noncomputable section
@[reducible] def I : Ty := .int .i64
@[reducible] def w64 (n : Int) : Int := IntKind.wrap .i64 n
def qo8 : List (List Tmp × FuncId × Kind × Join) -> List Tmp -> FuncId -> Kind -> Option Join
 | [], _, _, _ => none
 | (c, f, k, j) :: l, c', f', k' => if f = f' then (if k = k' then (if c = c' then some j else qo8 l c' f' k') else qo8 l c' f' k') else qo8 l c' f' k'
def qca (js : List (List Tmp × FuncId × Kind × Join)) (inl : List (List Tmp × FuncId × Tmp)) : TH where
 lib := fun _ => false
 join := qo8 js
 inl := fun c f d => inl.any fun (c', f', d') => decide (f = f') && decide (d = d') && decide (c = c')
def Lb : FuncId -> Option (List V -> Option V) := fun _ => none
theorem hJ {js : List (List Tmp × FuncId × Kind × Join)} {inl : List (List Tmp × FuncId × Tmp)} : ∀ g, (qca js inl).lib g = false -> Lb g = none := fun g h => rfl
def qn (a0 : Int) (a1 : Int) (a2 : Int) : Option Bool :=
 (bif decide (a1 <= a0) then
   some (decide (a0 <= a2))
  else
   some false).bind fun (p1 : Bool) =>
 some p1
def qp : Entry := ⟨84, [.ty I, .ty I, .ty I], [(.bool, 0)], fun x => qn x.1 x.2.1 x.2.2⟩
def qex : TH := qca [([], 84, .region 1, { lv := [⟨none, 6, 0⟩], ps := [(.bool, 0)], D := ⟨32704⟩ })] []
theorem qei (x : denP qp.ps) : fnT Tryz.prog Hn.hints qex (qne []) 40 84 (qem qp.ps x) qp.rs = qp.F x := by kernel_rfl
theorem qS : qbm Tryz.prog Hn.hints Lb qp := qcE qq hJ 40 _ _ _ _ qei
def qy (a0 : Int) (a1 : Int) : Option Bool :=
 (qn a0 (w64 (0 - a1)) a1).bind fun x1 =>
 some x1
def qE : Entry := ⟨94, [.ty I, .ty I], [(.bool, 0)], fun x => qy x.1 x.2⟩
def qdE : TH := qca [] []
theorem qdx (x : denP qE.ps) : fnT Tryz.prog Hn.hints qdE (qne [qp]) 40 94 (qem qE.ps x) qE.rs = qE.F x := by kernel_rfl
theorem qaD : qbm Tryz.prog Hn.hints Lb qE := qcE (qh qS qq) hJ 40 _ _ _ _ qdx
def qm (a0 : Bool) (a1 : Int) : Option Int :=
 bif a0 then
  some 0
 else
  some a1
def qt : Entry := ⟨72, [.ty .bool, .ty I], [(I, 0)], fun x => qm x.1 x.2⟩
def qd7 : TH := qca [] []
theorem qeu (x : denP qt.ps) : fnT Tryz.prog Hn.hints qd7 (qne []) 40 72 (qem qt.ps x) qt.rs = qt.F x := by kernel_rfl
theorem qV : qbm Tryz.prog Hn.hints Lb qt := qcE qq hJ 40 _ _ _ _ qeu
def qx (a0 : (List Int)) : Option Int :=
 (qU (fun (s2 : Int) =>
   bif decide (s2 < (a0.length : Int)) then
    (idx a0 s2).bind fun x3 =>
    bif !(decide (x3 = 0)) then
     some (.inr (.inr x3))
    else
     some (.inl (w64 (s2 + 1)))
   else
    some (.inr (.inl ()))) 0).bind (Sum.elim (fun (p4 : Unit) =>
 some 0) some)
def qD : Entry := ⟨71, [.ty (.sl I)], [(I, 0)], fun x => qx x⟩
def qeW : TH := qca [([], 71, .block 0, { lv := [], ps := [], abn := true, D := ⟨32656⟩ }),
 ([], 71, .loop 0, { lv := [⟨none, 7, 0⟩], ps := [(I, 0)], D := ⟨32656⟩ })] []
theorem qe6 (x : denP qD.ps) : fnT Tryz.prog Hn.hints qeW (qne []) 40 71 (qem qD.ps x) qD.rs = qD.F x := by kernel_rfl
theorem qah : qbm Tryz.prog Hn.hints Lb qD := qcE qq hJ 40 _ _ _ _ qe6
def qai (a0 : (Int × Int × Int × Int × Int × Unit)) : Option Int :=
 ((qy a0.1 (60 : Int)).bind fun x1 =>
  bif x1 then
   (qy a0.2.1 (60 : Int)).bind fun x2 =>
   bif x2 then
    (qn a0.2.2.1 (1 : Int) (8 : Int)).bind fun x3 =>
    bif x3 then
     (qn a0.2.2.2.1 (1 : Int) (3 : Int)).bind fun x4 =>
     bif x4 then
      (qn a0.2.2.2.2.1 (1 : Int) (6 : Int)).bind fun x5 =>
      some x5
     else
      some false
    else
     some false
   else
    some false
  else
   some false).bind fun (p6 : Bool) =>
 (qm p6 (2 : Int)).bind fun x7 =>
 (qm (decide (a0.1 <= a0.2.1)) (9 : Int)).bind fun x8 =>
 (qx ([x7, x8])).bind fun x9 =>
 some x9
def qJ : Entry := ⟨37, [.ty (.pair I (.pair I (.pair I (.pair I (.pair I .unit)))))], [(I, 0)], fun x => qai x⟩
def qbU : TH := qca [([], 37, .region 1, { lv := [⟨none, 3, 0⟩], ps := [(.bool, 0)], D := ⟨536870904⟩, rs := [⟨0, 1⟩], Dn := ⟨502233544⟩ })] []
theorem qbR (x : denP qJ.ps) : fnT Tryz.prog Hn.hints qbU (qne [qD, qE, qt, qp]) 40 37 (qem qJ.ps x) qJ.rs = qJ.F x := by kernel_rfl
theorem qbQ : qbm Tryz.prog Hn.hints Lb qJ := qcE (qh qah (qh qaD (qh qV (qh qS qq)))) hJ 40 _ _ _ _ qbR
def qaq (a0 : (Int × Int × Int × Int × Int × Unit)) (a1 : (Int × Int × Int × Unit)) : Option Int :=
 ((qn a1.1 a0.1 a0.2.1).bind fun x1 =>
  bif x1 then
   (qy a1.2.1 a0.2.2.1).bind fun x2 =>
   bif x2 then
    (qy a1.2.2.1 a0.2.2.2.1).bind fun x3 =>
    some x3
   else
    some false
  else
   some false).bind fun (p4 : Bool) =>
 (qai a0).bind fun x5 =>
 (qm p4 (2 : Int)).bind fun x6 =>
 (qx ([x5, x6])).bind fun x7 =>
 some x7
def qM : Entry := ⟨91, [.ty (.pair I (.pair I (.pair I (.pair I (.pair I .unit))))), .ty (.pair I (.pair I (.pair I .unit)))], [(I, 0)], fun x => qaq x.1 x.2⟩
def qcq : TH := qca [([], 91, .region 1, { lv := [⟨none, 5, 0⟩], ps := [(.bool, 0)], D := ⟨536870880⟩, rs := [⟨0, 2⟩, ⟨0, 3⟩], Dn := ⟨494593184⟩ })] []
theorem qch (x : denP qM.ps) : fnT Tryz.prog Hn.hints qcq (qne [qJ, qD, qE, qt, qp]) 40 91 (qem qM.ps x) qM.rs = qM.F x := by kernel_rfl
theorem qci : qbm Tryz.prog Hn.hints Lb qM := qcE (qh qbQ (qh qah (qh qaD (qh qV (qh qS qq))))) hJ 40 _ _ _ _ qch
def qbc (a0 : (Int × Int × Int × Unit)) : Option Bool :=
 (bif decide (a0.2.1 = 0) then
   some (decide (a0.2.2.1 = 0))
  else
   some false).bind fun (p1 : Bool) =>
 some p1
def q9 : Entry := ⟨95, [.ty (.pair I (.pair I (.pair I .unit)))], [(.bool, 0)], fun x => qbc x⟩
def qeh : TH := qca [([], 95, .region 1, { lv := [⟨none, 2, 0⟩], ps := [(.bool, 0)], D := ⟨2044⟩, rs := [⟨0, 1⟩], Dn := ⟨1908⟩ })] []
theorem qen (x : denP q9.ps) : fnT Tryz.prog Hn.hints qeh (qne []) 40 95 (qem q9.ps x) q9.rs = q9.F x := by kernel_rfl
theorem qd3 : qbm Tryz.prog Hn.hints Lb q9 := qcE qq hJ 40 _ _ _ _ qen
def qa8 (a0 : (Int × Int × Int × Int × Int × Unit)) (a1 : (Int × Int × Int × Unit)) (a2 : Int) : Option ((Int × Int × Int × Unit) × Bool) :=
 ((qy a2 a0.2.2.2.1).bind fun x1 =>
  bif !x1 then
   some true
  else
   (qy (w64 (a2 - a1.2.2.1)) a0.2.2.2.2.1).bind fun x2 =>
   some (!x2)).bind fun (p3 : Bool) =>
 bif p3 then
  some (a1, false)
 else
  ((qy (w64 (a1.2.1 + a2)) a0.2.2.1).bind fun x4 =>
   bif x4 then
    (qn (w64 (a1.1 + (w64 (a1.2.1 + a2)))) a0.1 a0.2.1).bind fun x5 =>
    some (x5, w64 (a1.1 + (w64 (a1.2.1 + a2))), w64 (a1.2.1 + a2), a2)
   else
    some (false, w64 (a1.1 + (w64 (a1.2.1 + a2))), w64 (a1.2.1 + a2), a2)).bind fun (p6 : (Bool × Int × Int × Int)) =>
  some ((p6.2.1, p6.2.2.1, p6.2.2.2, ()), p6.1)
def qaa : Entry := ⟨92, [.ty (.pair I (.pair I (.pair I (.pair I (.pair I .unit))))), .ty (.pair I (.pair I (.pair I .unit))), .ty I], [((.pair I (.pair I (.pair I .unit))), 0), (.bool, 0)], fun x => qa8 x.1 x.2.1 x.2.2⟩
def qec : TH := qca [([], 92, .region 1, { lv := [⟨none, 22, 0⟩], ps := [(.bool, 0)], D := ⟨8388352⟩, rs := [⟨0, 3⟩, ⟨0, 4⟩], Dn := ⟨8092928⟩ }),
 ([], 92, .region 5, { lv := [⟨none, 7, 0⟩, ⟨some 0, 6, 0⟩, ⟨some 0, 6, 1⟩, ⟨some 0, 6, 2⟩], ps := [(.bool, 0), (I, 0), (I, 0), (I, 0)], D := ⟨18014261070528640⟩, wr := [⟨0, 6⟩], rs := [⟨0, 3⟩, ⟨0, 4⟩], Dn := ⟨16095338402152576⟩ })] []
theorem qed (x : denP qaa.ps) : fnT Tryz.prog Hn.hints qec (qne [qE, qp]) 40 92 (qem qaa.ps x) qaa.rs = qaa.F x := by kernel_rfl
theorem qd4 : qbm Tryz.prog Hn.hints Lb qaa := qcE (qh qaD (qh qS qq)) hJ 40 _ _ _ _ qed
def qcm (a0 : (Int × Int × Int × Int × Int × Unit)) (a1 : (Int × Int × Int × Unit)) : Option ((List Int) × Bool) :=
 (qU (fun (s2 : ((List (Int × Int × Int × Int × Unit)) × Int × (List (Int × Int × Int × Unit)))) =>
   bif decide (s2.2.1 < (s2.1.length : Int)) then
    (idx s2.1 s2.2.1).bind fun x3 =>
    (qbc (x3.1, x3.2.1, x3.2.2.1, ())).bind fun x4 =>
    bif x4 then
     (qU (fun (s7 : ((List Int) × Int)) =>
       (idx s2.1 s7.2).bind fun x8 =>
       bif decide (x8.2.2.2.1 >= 0) then
        (idx s2.1 s7.2).bind fun x9 =>
        (app s7.1 ([x9.2.2.1])).bind fun x10 =>
        (idx s2.1 s7.2).bind fun x11 =>
        some (.inl (x10, x11.2.2.2.1))
       else
        some (.inr s7.1)) ([], s2.2.1)).bind fun (p12 : (List Int)) =>
     (qza p12).bind fun x13 =>
     some (.inr (.inr (x13, true)))
    else
     (qU (fun (s15 : ((List (Int × Int × Int × Int × Unit)) × Int × (List (Int × Int × Int × Unit)))) =>
       bif decide (s15.2.1 <= a0.2.2.2.1) then
        (idx s15.1 s2.2.1).bind fun x16 =>
        (qa8 a0 (x16.1, x16.2.1, x16.2.2.1, ()) s15.2.1).bind fun x17 =>
        (bif x17.2 then
          some (!(qgj (.pair I (.pair I (.pair I .unit))) s15.2.2 x17.1))
         else
          some false).bind fun (p18 : Bool) =>
        (bif p18 then
          (app s15.1 ([(x17.1.1, x17.1.2.1, x17.1.2.2.1, s2.2.1, ())])).bind fun x19 =>
          some (x19, qkq (.pair I (.pair I (.pair I .unit))) s15.2.2 x17.1)
         else
          some (s15.1, s15.2.2)).bind fun (p20 : ((List (Int × Int × Int × Int × Unit)) × (List (Int × Int × Int × Unit)))) =>
        some (.inl (p20.1, w64 (s15.2.1 + 1), p20.2))
       else
        some (.inr (s15.1, s15.2.2))) (s2.1, w64 (0 - a0.2.2.2.1), s2.2.2)).bind fun (p21 : ((List (Int × Int × Int × Int × Unit)) × (List (Int × Int × Int × Unit)))) =>
     some (.inl (p21.1, w64 (s2.2.1 + 1), p21.2))
   else
    some (.inr (.inl ()))) ([(a1.1, a1.2.1, a1.2.2.1, (-1), ())], 0, qkq (.pair I (.pair I (.pair I .unit))) [] a1)).bind (Sum.elim (fun (p22 : Unit) =>
 some ([], false)) some)
def qav : Entry := ⟨93, [.ty (.pair I (.pair I (.pair I (.pair I (.pair I .unit))))), .ty (.pair I (.pair I (.pair I .unit)))], [((.sl I), 1), (.bool, 0)], fun x => qcm x.1 x.2⟩
def qfR : TH := qca [([], 93, .block 0, { lv := [], ps := [], abn := true, D := ⟨2475880078570760549797216064⟩, wr := [⟨0, 12⟩, ⟨0, 16401⟩] }),
 ([], 93, .loop 0, { lv := [⟨none, 6, 0⟩, ⟨none, 8, 0⟩, ⟨some 0, 16401, 0⟩], ps := [((.sl (.pair I (.pair I (.pair I (.pair I .unit))))), 1), (I, 0), ((.mset (.pair I (.pair I (.pair I .unit)))), 0)], D := ⟨2475880078570760549797216064⟩, wr := [⟨0, 12⟩, ⟨0, 16401⟩], rs := [⟨0, 2⟩], Dn := ⟨2475880077345781451152441152⟩ }),
 ([], 93, .block 2, { lv := [⟨none, 9, 0⟩], ps := [((.sl I), 1)], D := ⟨9007190664807936⟩ }),
 ([], 93, .loop 2, { lv := [⟨none, 9, 0⟩, ⟨none, 10, 0⟩], ps := [((.sl I), 1), (I, 0)], D := ⟨9007190664807936⟩ }),
 ([], 93, .block 4, { lv := [⟨none, 6, 0⟩, ⟨some 0, 16401, 0⟩], ps := [((.sl (.pair I (.pair I (.pair I (.pair I .unit))))), 1), ((.mset (.pair I (.pair I (.pair I .unit)))), 0)], D := ⟨2475880077994299797494839872⟩, wr := [⟨0, 12⟩, ⟨0, 16401⟩], rs := [⟨0, 2⟩], Dn := ⟨2475880076841378292887992896⟩ }),
 ([], 93, .loop 4, { lv := [⟨none, 6, 0⟩, ⟨none, 11, 0⟩, ⟨some 0, 16401, 0⟩], ps := [((.sl (.pair I (.pair I (.pair I (.pair I .unit))))), 1), (I, 0), ((.mset (.pair I (.pair I (.pair I .unit)))), 0)], D := ⟨2475880077994299797494839872⟩, wr := [⟨0, 12⟩, ⟨0, 16401⟩], rs := [⟨0, 2⟩, ⟨0, 12⟩, ⟨0, 16401⟩], Dn := ⟨2465906438829557602196662848⟩ }),
 ([], 93, .region 18, { lv := [⟨none, 82, 0⟩], ps := [(.bool, 0)], D := ⟨9595848693191119074230272⟩, rs := [⟨0, 16401⟩], Dn := ⟨9293617238287461780553728⟩ }),
 ([], 93, .cond 82, { lv := [⟨none, 6, 0⟩, ⟨some 0, 16401, 0⟩], ps := [((.sl (.pair I (.pair I (.pair I (.pair I .unit))))), 1), ((.mset (.pair I (.pair I (.pair I .unit)))), 0)], D := ⟨2466208672013843516400599104⟩, wr := [⟨0, 16401⟩], rs := [⟨0, 16401⟩], Dn := ⟨2456537265456926483002949696⟩ })] []
theorem qfH (x : denP qav.ps) : fnT Tryz.prog Hn.hints qfR (qne [q9, qaa]) 40 93 (qem qav.ps x) qav.rs = qav.F x := by kernel_rfl
theorem qfw : qbm Tryz.prog Hn.hints Lb qav := qcE (qh qd3 (qh qd4 qq)) hJ 40 _ _ _ _ qfH
def qaY (a0 : (Int × Int × Int × Int × Int × Unit)) (a1 : (Int × Int × Int × Unit)) : Option ((List Int) × Int) :=
 (qaq a0 a1).bind fun x1 =>
 bif !(decide (x1 = 0)) then
  some ([], x1)
 else
  (qcm a0 a1).bind fun x2 =>
  (qm x2.2 (12 : Int)).bind fun x3 =>
  some (x2.1, x3)
def qW : Entry := ⟨38, [.ty (.pair I (.pair I (.pair I (.pair I (.pair I .unit))))), .ty (.pair I (.pair I (.pair I .unit)))], [((.sl I), 1), (I, 0)], fun x => qaY x.1 x.2⟩
def qcY : TH := qca [] []
theorem qc3 (x : denP qW.ps) : fnT Tryz.prog Hn.hints qcY (qne [qM, qav, qt]) 40 38 (qem qW.ps x) qW.rs = qW.F x := by kernel_rfl
theorem qft : qbm Tryz.prog Hn.hints Lb qW := qcE (qh qci (qh qfw (qh qV qq))) hJ 40 _ _ _ _ qc3
end
end Go.Proofs.YtkcaaaiihhhnmaaGreat.St0
end
section
namespace Go.Proofs.YtkcaaaiihhhnmaaGreat.St0
open Go Go.Ab Go.Tx
def Le {α : Type} (a b : Option α) : Prop := ∀ r, a = some r -> b = some r
theorem Le.refl {α : Type} (a : Option α) : Le a a := fun _ h => h
theorem Le.bind {α β : Type} {a a' : Option α} {f f' : α -> Option β} (h : Le a a') (hf : ∀ x, Le (f x) (f' x)) : Le (a.bind f) (a'.bind f') := fun r hr => by
 obtain ⟨x, hx, hr⟩ := qd.1 hr;rw [h x hx]; exact hf x r hr
theorem Le.cond {α : Type} {c : Bool} {a a' b b' : Option α} (h : Le a a') (h' : Le b b') : Le (bif c then a else b) (bif c then a' else b') := by cases c <;> assumption
theorem Le.elim {α β γ : Type} {f f' : α -> Option γ} {g : β -> Option γ} (hf : ∀ x, Le (f x) (f' x)) (x : α ⊕ β) : Le (Sum.elim f g x) (Sum.elim f' g x) := by
 cases x with
 | inl x => exact hf x
 | inr y => exact Le.refl _
theorem Le.map {α β : Type} {a a' : Option α} {f : α -> β} (h : Le a a') : Le (a.map f) (a'.map f) := fun r hr => by
 obtain ⟨x, hx, rfl⟩ := qc.1 hr;rw [h x hx]; rfl
theorem qsA {σ ρ : Type} {f g : σ -> Option (σ ⊕ ρ)} (h : ∀ s, Le (f s) (g s)) : ∀ n s, Le (qcO f n s) (qcO g n s)
 | 0, s => Le.refl _
 | n + 1, s => fun r hr => by
  simp only [qcO] at hr ⊢;cases hf : f s with
  | none => rw [hf] at hr; cases hr
  | some x =>
   rw [hf] at hr;rw [h s x hf];cases x with
   | inl s' => exact qsA h n s' r hr
   | inr q => exact hr
theorem qke {σ ρ : Type} {f : σ -> Option (σ ⊕ ρ)} : ∀ {n m : Nat} {s : σ} {r : ρ}, n <= m -> qcO f n s = some r -> qcO f m s = some r
 | 0, _, _, _, _, h => by simp [qcO] at h
 | n + 1, 0, _, _, hle, _ => by omega
 | n + 1, m + 1, s, r, hle, h => by
  simp only [qcO] at h ⊢;cases hf : f s with
  | none => rw [hf] at h; cases h
  | some x =>
   rw [hf] at h;cases x with
   | inl s' => exact qke (by omega) h
   | inr q => exact h
theorem qiG {σ ρ : Type} {f : σ -> Option (σ ⊕ ρ)} {n : Nat} {s : σ} {r : ρ} (h : qcO f n s = some r) : qU f s = some r := by
 unfold qU;rw [dif_pos ⟨n, r, h⟩];have h2 := Classical.choose_spec (Classical.choose_spec (⟨n, r, h⟩ : ∃ n r, qcO f n s = some r));have h3 := qke (Nat.le_max_left n (Classical.choose (⟨n, r, h⟩ : ∃ n r, qcO f n s = some r))) h;have h4 := qke (Nat.le_max_right n (Classical.choose (⟨n, r, h⟩ : ∃ n r, qcO f n s = some r))) h2;rw [h3] at h4;exact h4.symm
theorem Le.loop {σ ρ : Type} {f g : σ -> Option (σ ⊕ ρ)} {n : Nat} {s : σ} (h : ∀ s, Le (f s) (g s)) : Le (qcO f n s) (qU g s) := fun r hr => qiG (qsA h n s r hr)
def qhC {σ ρ : Type} (f : σ -> Option (σ ⊕ ρ)) (s : σ) : Option ρ := qcO f 400 s
theorem Le.qhC {σ ρ : Type} {f g : σ -> Option (σ ⊕ ρ)} {s : σ} (h : ∀ s, Le (f s) (g s)) : Le (St0.qhC f s) (qU g s) := Le.loop h
def qax (a0 : Int) (a1 : Int) (a2 : Int) : Option Bool :=
 (bif decide (a1 <= a0) then
   some (decide (a0 <= a2))
  else
   some false).bind fun (p1 : Bool) =>
 some p1
theorem qce (a0 : Int) (a1 : Int) (a2 : Int) : Le (qax a0 a1 a2) (qn a0 a1 a2) := by
 unfold qax qn;repeat' first | exact Le.refl _ | refine Le.qhC fun _ => ?_ | refine Le.elim (fun _ => ?_) _ | refine Le.bind ?_ fun _ => ?_ | refine Le.cond ?_ ?_ | refine Le.map ?_
def qab (a0 : Int) (a1 : Int) : Option Bool :=
 (qax a0 (w64 (0 - a1)) a1).bind fun x1 =>
 some x1
theorem qc8 (a0 : Int) (a1 : Int) : Le (qab a0 a1) (qy a0 a1) := by
 unfold qab qy;repeat' first | exact Le.refl _ | exact qce _ _ _ | refine Le.qhC fun _ => ?_ | refine Le.elim (fun _ => ?_) _ | refine Le.bind ?_ fun _ => ?_ | refine Le.cond ?_ ?_ | refine Le.map ?_
def qaU (a0 : Bool) (a1 : Int) : Option Int :=
 bif a0 then
  some 0
 else
  some a1
theorem qdG (a0 : Bool) (a1 : Int) : Le (qaU a0 a1) (qm a0 a1) := by
 unfold qaU qm;repeat' first | exact Le.refl _ | refine Le.qhC fun _ => ?_ | refine Le.elim (fun _ => ?_) _ | refine Le.bind ?_ fun _ => ?_ | refine Le.cond ?_ ?_ | refine Le.map ?_
def qdg (a0 : (List Int)) : Option Int :=
 (qhC (fun (s2 : Int) =>
   bif decide (s2 < (a0.length : Int)) then
    (idx a0 s2).bind fun x3 =>
    bif !(decide (x3 = 0)) then
     some (.inr (.inr x3))
    else
     some (.inl (w64 (s2 + 1)))
   else
    some (.inr (.inl ()))) 0).bind (Sum.elim (fun (p4 : Unit) =>
 some 0) some)
theorem qgY (a0 : (List Int)) : Le (qdg a0) (qx a0) := by
 unfold qdg qx;repeat' first | exact Le.refl _ | refine Le.qhC fun _ => ?_ | refine Le.elim (fun _ => ?_) _ | refine Le.bind ?_ fun _ => ?_ | refine Le.cond ?_ ?_ | refine Le.map ?_
def qbV (a0 : (Int × Int × Int × Int × Int × Unit)) : Option Int :=
 ((qab a0.1 (60 : Int)).bind fun x1 =>
  bif x1 then
   (qab a0.2.1 (60 : Int)).bind fun x2 =>
   bif x2 then
    (qax a0.2.2.1 (1 : Int) (8 : Int)).bind fun x3 =>
    bif x3 then
     (qax a0.2.2.2.1 (1 : Int) (3 : Int)).bind fun x4 =>
     bif x4 then
      (qax a0.2.2.2.2.1 (1 : Int) (6 : Int)).bind fun x5 =>
      some x5
     else
      some false
    else
     some false
   else
    some false
  else
   some false).bind fun (p6 : Bool) =>
 (qaU p6 (2 : Int)).bind fun x7 =>
 (qaU (decide (a0.1 <= a0.2.1)) (9 : Int)).bind fun x8 =>
 (qdg ([x7, x8])).bind fun x9 =>
 some x9
theorem qgz (a0 : (Int × Int × Int × Int × Int × Unit)) : Le (qbV a0) (qai a0) := by
 unfold qbV qai;repeat' first | exact Le.refl _ | exact qce _ _ _ | exact qc8 _ _ | exact qdG _ _ | exact qgY _ | refine Le.qhC fun _ => ?_ | refine Le.elim (fun _ => ?_) _ | refine Le.bind ?_ fun _ => ?_ | refine Le.cond ?_ ?_ | refine Le.map ?_
def qck (a0 : (Int × Int × Int × Int × Int × Unit)) (a1 : (Int × Int × Int × Unit)) : Option Int :=
 ((qax a1.1 a0.1 a0.2.1).bind fun x1 =>
  bif x1 then
   (qab a1.2.1 a0.2.2.1).bind fun x2 =>
   bif x2 then
    (qab a1.2.2.1 a0.2.2.2.1).bind fun x3 =>
    some x3
   else
    some false
  else
   some false).bind fun (p4 : Bool) =>
 (qbV a0).bind fun x5 =>
 (qaU p4 (2 : Int)).bind fun x6 =>
 (qdg ([x5, x6])).bind fun x7 =>
 some x7
theorem qhy (a0 : (Int × Int × Int × Int × Int × Unit)) (a1 : (Int × Int × Int × Unit)) : Le (qck a0 a1) (qaq a0 a1) := by
 unfold qck qaq;repeat' first | exact Le.refl _ | exact qce _ _ _ | exact qc8 _ _ | exact qdG _ _ | exact qgY _ | exact qgz _ | refine Le.qhC fun _ => ?_ | refine Le.elim (fun _ => ?_) _ | refine Le.bind ?_ fun _ => ?_ | refine Le.cond ?_ ?_ | refine Le.map ?_
def qee (a0 : (Int × Int × Int × Unit)) : Option Bool :=
 (bif decide (a0.2.1 = 0) then
   some (decide (a0.2.2.1 = 0))
  else
   some false).bind fun (p1 : Bool) =>
 some p1
theorem qkS (a0 : (Int × Int × Int × Unit)) : Le (qee a0) (qbc a0) := by
 unfold qee qbc;repeat' first | exact Le.refl _ | refine Le.qhC fun _ => ?_ | refine Le.elim (fun _ => ?_) _ | refine Le.bind ?_ fun _ => ?_ | refine Le.cond ?_ ?_ | refine Le.map ?_
def qej (a0 : (Int × Int × Int × Int × Int × Unit)) (a1 : (Int × Int × Int × Unit)) (a2 : Int) : Option ((Int × Int × Int × Unit) × Bool) :=
 ((qab a2 a0.2.2.2.1).bind fun x1 =>
  bif !x1 then
   some true
  else
   (qab (w64 (a2 - a1.2.2.1)) a0.2.2.2.2.1).bind fun x2 =>
   some (!x2)).bind fun (p3 : Bool) =>
 bif p3 then
  some (a1, false)
 else
  ((qab (w64 (a1.2.1 + a2)) a0.2.2.1).bind fun x4 =>
   bif x4 then
    (qax (w64 (a1.1 + (w64 (a1.2.1 + a2)))) a0.1 a0.2.1).bind fun x5 =>
    some (x5, w64 (a1.1 + (w64 (a1.2.1 + a2))), w64 (a1.2.1 + a2), a2)
   else
    some (false, w64 (a1.1 + (w64 (a1.2.1 + a2))), w64 (a1.2.1 + a2), a2)).bind fun (p6 : (Bool × Int × Int × Int)) =>
  some ((p6.2.1, p6.2.2.1, p6.2.2.2, ()), p6.1)
theorem qkQ (a0 : (Int × Int × Int × Int × Int × Unit)) (a1 : (Int × Int × Int × Unit)) (a2 : Int) : Le (qej a0 a1 a2) (qa8 a0 a1 a2) := by
 unfold qej qa8;repeat' first | exact Le.refl _ | exact qce _ _ _ | exact qc8 _ _ | refine Le.qhC fun _ => ?_ | refine Le.elim (fun _ => ?_) _ | refine Le.bind ?_ fun _ => ?_ | refine Le.cond ?_ ?_ | refine Le.map ?_
def qfV (a0 : (Int × Int × Int × Int × Int × Unit)) (a1 : (Int × Int × Int × Unit)) : Option ((List Int) × Bool) :=
 (qhC (fun (s2 : ((List (Int × Int × Int × Int × Unit)) × Int × (List (Int × Int × Int × Unit)))) =>
   bif decide (s2.2.1 < (s2.1.length : Int)) then
    (idx s2.1 s2.2.1).bind fun x3 =>
    (qee (x3.1, x3.2.1, x3.2.2.1, ())).bind fun x4 =>
    bif x4 then
     (qhC (fun (s7 : ((List Int) × Int)) =>
       (idx s2.1 s7.2).bind fun x8 =>
       bif decide (x8.2.2.2.1 >= 0) then
        (idx s2.1 s7.2).bind fun x9 =>
        (app s7.1 ([x9.2.2.1])).bind fun x10 =>
        (idx s2.1 s7.2).bind fun x11 =>
        some (.inl (x10, x11.2.2.2.1))
       else
        some (.inr s7.1)) ([], s2.2.1)).bind fun (p12 : (List Int)) =>
     (qza p12).bind fun x13 =>
     some (.inr (.inr (x13, true)))
    else
     (qhC (fun (s15 : ((List (Int × Int × Int × Int × Unit)) × Int × (List (Int × Int × Int × Unit)))) =>
       bif decide (s15.2.1 <= a0.2.2.2.1) then
        (idx s15.1 s2.2.1).bind fun x16 =>
        (qej a0 (x16.1, x16.2.1, x16.2.2.1, ()) s15.2.1).bind fun x17 =>
        (bif x17.2 then
          some (!(qgj (.pair I (.pair I (.pair I .unit))) s15.2.2 x17.1))
         else
          some false).bind fun (p18 : Bool) =>
        (bif p18 then
          (app s15.1 ([(x17.1.1, x17.1.2.1, x17.1.2.2.1, s2.2.1, ())])).bind fun x19 =>
          some (x19, qkq (.pair I (.pair I (.pair I .unit))) s15.2.2 x17.1)
         else
          some (s15.1, s15.2.2)).bind fun (p20 : ((List (Int × Int × Int × Int × Unit)) × (List (Int × Int × Int × Unit)))) =>
        some (.inl (p20.1, w64 (s15.2.1 + 1), p20.2))
       else
        some (.inr (s15.1, s15.2.2))) (s2.1, w64 (0 - a0.2.2.2.1), s2.2.2)).bind fun (p21 : ((List (Int × Int × Int × Int × Unit)) × (List (Int × Int × Int × Unit)))) =>
     some (.inl (p21.1, w64 (s2.2.1 + 1), p21.2))
   else
    some (.inr (.inl ()))) ([(a1.1, a1.2.1, a1.2.2.1, (-1), ())], 0, qkq (.pair I (.pair I (.pair I .unit))) [] a1)).bind (Sum.elim (fun (p22 : Unit) =>
 some ([], false)) some)
theorem qnd (a0 : (Int × Int × Int × Int × Int × Unit)) (a1 : (Int × Int × Int × Unit)) : Le (qfV a0 a1) (qcm a0 a1) := by
 unfold qfV qcm;repeat' first | exact Le.refl _ | exact qkS _ | exact qkQ _ _ _ | refine Le.qhC fun _ => ?_ | refine Le.elim (fun _ => ?_) _ | refine Le.bind ?_ fun _ => ?_ | refine Le.cond ?_ ?_ | refine Le.map ?_
def qfh (a0 : (Int × Int × Int × Int × Int × Unit)) (a1 : (Int × Int × Int × Unit)) : Option ((List Int) × Int) :=
 (qck a0 a1).bind fun x1 =>
 bif !(decide (x1 = 0)) then
  some ([], x1)
 else
  (qfV a0 a1).bind fun x2 =>
  (qaU x2.2 (12 : Int)).bind fun x3 =>
  some (x2.1, x3)
theorem qiy (a0 : (Int × Int × Int × Int × Int × Unit)) (a1 : (Int × Int × Int × Unit)) : Le (qfh a0 a1) (qaY a0 a1) := by
 unfold qfh qaY;repeat' first | exact Le.refl _ | exact qdG _ _ | exact qhy _ _ | exact qnd _ _ | refine Le.qhC fun _ => ?_ | refine Le.elim (fun _ => ?_) _ | refine Le.bind ?_ fun _ => ?_ | refine Le.cond ?_ ?_ | refine Le.map ?_
end Go.Proofs.YtkcaaaiihhhnmaaGreat.St0
namespace Go.Proofs.YtkcaaaiihhhnmaaGreat.St0
open Go Go.Ab Go.Tx
theorem qyZ : qaY (-10, 10, 4, 2, 1, ()) (0, 3, 0, ()) = some ([-1, -1, -1, 0], 0) := qiy _ _ _ (by kernel_rfl)
end Go.Proofs.YtkcaaaiihhhnmaaGreat.St0
end
section
namespace Go.Proofs.YtkcaaaiihhhnmaaGreat
open Go Go.Ab
theorem follows : Tryz.prog.follows .mixedOrders = true := by kernel_rfl
theorem qyV : (Tryz.prog.funcs.toList.all fun fn => !fn.body.isSome || !(fn.name == "runtime.NumGoroutine")) = true := by kernel_rfl
theorem qb2 : qiY Tryz.prog Hn.hints := ⟨fun g fn h hb => by
 have := List.all_eq_true.1 qyV fn (by rw [Array.mem_toList_iff]; exact Array.mem_of_getElem? h);rw [hb] at this;simpa using this, turns⟩
def vi (n : Int) : V := .val (.int .i64 n)
def r0 : Ran := ⟨64, [.agg [.sl .shared false [.val (.string ⟨#[107, 101, 121]⟩), .val (.string ⟨#[100, 111, 111, 114]⟩), .val (.string ⟨#[114, 117, 110]⟩)], .sl .shared false [.agg [.val (.string ⟨#[111, 112, 101, 110]⟩), .sl .shared false [], .sl .shared false [vi (2)], .sl .shared false [vi (1)], .sl .shared false []], .agg [.val (.string ⟨#[115, 104, 117, 116]⟩), .sl .shared false [], .sl .shared false [], .sl .shared false [], .sl .shared false [vi (1)]], .agg [.val (.string ⟨#[116, 117, 114, 110]⟩), .sl .shared false [], .sl .shared false [], .sl .shared false [vi (0)], .sl .shared false []], .agg [.val (.string ⟨#[115, 116, 97, 114, 116]⟩), .sl .shared false [vi (0)], .sl .shared false [vi (1)], .sl .shared false [vi (2)], .sl .shared false []], .agg [.val (.string ⟨#[104, 97, 108, 116]⟩), .sl .shared false [], .sl .shared false [], .sl .shared false [], .sl .shared false [vi (2)]]], .sl .shared false [.agg [.sl .shared false [vi (1), vi (2)], .sl .shared false []]]], vi (0)], .tuple [.sl .own false [vi (0), vi (1), vi (2), vi (3), vi (5)], vi (0)]⟩
theorem qz6 : qbP Tryz.prog r0.g r0.args [] r0.r [] := qn7 (t := []) (H := Hn.hints) follows qb2 (by simp) 200 r0 (by kernel_rfl)
def r1 : Ran := ⟨66, [.agg [.sl .shared false [.val (.string ⟨#[107, 101, 121]⟩), .val (.string ⟨#[100, 111, 111, 114]⟩), .val (.string ⟨#[114, 117, 110]⟩)], .sl .shared false [.agg [.val (.string ⟨#[111, 112, 101, 110]⟩), .sl .shared false [], .sl .shared false [], .sl .shared false [vi (1)], .sl .shared false []], .agg [.val (.string ⟨#[115, 104, 117, 116]⟩), .sl .shared false [], .sl .shared false [], .sl .shared false [], .sl .shared false [vi (1)]], .agg [.val (.string ⟨#[116, 117, 114, 110]⟩), .sl .shared false [], .sl .shared false [], .sl .shared false [vi (0)], .sl .shared false []], .agg [.val (.string ⟨#[115, 116, 97, 114, 116]⟩), .sl .shared false [vi (0)], .sl .shared false [vi (1)], .sl .shared false [vi (2)], .sl .shared false []], .agg [.val (.string ⟨#[104, 97, 108, 116]⟩), .sl .shared false [], .sl .shared false [], .sl .shared false [], .sl .shared false [vi (2)]]], .sl .shared false [.agg [.sl .shared false [vi (1), vi (2)], .sl .shared false []]]], vi (0)], .tuple [.sl .own false [vi (2), vi (3), vi (0)], vi (0)]⟩
theorem qz8 : qbP Tryz.prog r1.g r1.args [] r1.r [] := qn7 (t := []) (H := Hn.hints) follows qb2 (by simp) 200 r1 (by kernel_rfl)
def r2 (c : Bool) : Ran := ⟨38, [.agg [vi (-10), vi (10), vi (4), vi (2), vi (1)], .agg [vi (0), vi (3), vi (0)]], .tuple [.sl .own c [vi (-1), vi (-1), vi (-1), vi (0)], vi (0)]⟩
theorem qzU : ∃ c, qbP Tryz.prog (r2 c).g (r2 c).args [] (r2 c).r [] := by
 obtain ⟨v, h1, h2⟩ := Tx.qnw follows qb2 (lib := St0.Lb) (fun g h args r hl _ => by cases hl) St0.qft (x := ((-10, 10, 4, 2, 1, ()), (0, 3, 0, ()))) St0.qyZ (vs := (r2 false).args) (by
  simp [r2, vi, St0.qW, Tx.qem, Tx.ofTy, Tx.ofTyC, Tx.RVL, Tx.RV, Tx.RTy, Tx.qzJ])
 simp only [St0.qW, Tx.qnh, Tx.ofL, Tx.qbW, Tx.ofTy, Tx.RV, Tx.RVL, Tx.RTy] at h2;obtain ⟨l', rfl, v1, m1, rfl, ⟨f, c, l2, rfl, hf, hall⟩, v2, m2, rfl, rfl, rfl⟩ := h2;have hf1 : f = .own := hf.own rfl;subst hf1;have hl : l2 = [vi (-1), vi (-1), vi (-1), vi 0] := by
  cases hall with | cons a1 hall => cases hall with | cons a2 hall => cases hall with | cons a3 hall => cases hall with | cons a4 hall => cases hall with | nil =>
   rw [a1, a2, a3, a4]; rfl
 subst hl;exact ⟨c, h1⟩
def r3 : Ran := ⟨26, [.sl .shared false [.agg [.val (.string ⟨#[108, 111, 119]⟩), .sl .shared false [.val (.string ⟨#[99, 104, 105, 101, 102]⟩)], vi (1)], .agg [.val (.string ⟨#[104, 105, 103, 104]⟩), .sl .shared false [.val (.string ⟨#[99, 104, 105, 101, 102]⟩), .val (.string ⟨#[111, 119, 110, 101, 114]⟩)], vi (2)]], .sl .shared false [.agg [vi (0), .val (.string ⟨#[97, 110, 110]⟩), .val (.string ⟨#[99, 104, 105, 101, 102]⟩)], .agg [vi (1), .val (.string ⟨#[97, 110, 110]⟩), .val (.string ⟨#[99, 104, 105, 101, 102]⟩)]]], .tuple [vi (1), vi (0)]⟩
theorem qz3 : qbP Tryz.prog r3.g r3.args [] r3.r [] := qn7 (t := []) (H := Hn.hints) follows qb2 (by simp) 200 r3 (by kernel_rfl)
def r4 : Ran := ⟨13, [.sl .shared false [.agg [vi (2), vi (4), vi (2), vi (4)]], .sl .shared false [.agg [vi (0), vi (0)], .agg [vi (2), vi (2)]]], .tuple [vi (0), vi (13)]⟩
theorem qAb : qbP Tryz.prog r4.g r4.args [] r4.r [] := qn7 (t := []) (H := Hn.hints) follows qb2 (by simp) 200 r4 (by kernel_rfl)
def rs (c : Bool) : List Ran := [r0, r1, r2 c, r3, r4]
theorem qze {c : Bool} (h2 : qbP Tryz.prog (r2 c).g (r2 c).args [] (r2 c).r []) : ∀ e ∈ rs c, qbP Tryz.prog e.g e.args [] e.r [] := by
 intro e he;simp only [rs, List.mem_cons, List.mem_nil_iff, or_false] at he;rcases he with rfl | rfl | rfl | rfl | rfl
 ·exact qz6
 ·exact qz8
 ·exact h2
 ·exact qz3
 ·exact qAb
def aw : Ran := ⟨12, [], .val (.bool true)⟩
theorem qwY : qbP Tryz.prog 12 [] [] (.val (.bool true)) [] := by
 obtain ⟨c, h2⟩ := qzU;cases c with
 | true => exact qn7 (t := rs true) (H := Hn.hints) follows qb2 (qze h2) 200 aw (by kernel_rfl)
 | false => exact qn7 (t := rs false) (H := Hn.hints) follows qb2 (qze h2) 200 aw (by kernel_rfl)
end Go.Proofs.YtkcaaaiihhhnmaaGreat
end
section
namespace Go.Tx
open Go Go.Ab Go.RowKit Go.ChangeShapes Go.WideShapes Go.Deep
section
variable {H : Type} {enc : TypeId × Value -> H} {P : Program}
theorem qpr {f : Func} {s : ChangeSpec} {apart fresh handsOn again : Bool} {W W' : World} {args : Array Value} {v : Value} {ds gs : List (DataW H)} {before pa pv : List MemPlace}
  (hW : DataW.Whole enc P f.params.toList s.vars apart W args.toList ds gs before)
  (hres : ∀ (b : Nat) (sp : Nat -> Bool) (hd : Bool), DataW.TrodAll enc P W' b sp hd f.resultTypes.toList (v.resultList f.resultTypes.size) (s.fn H (ds ++ gs)).results [])
  (hargs : ∀ sp : Nat -> Bool, (∀ p ∈ before, sp p.block = true) -> DataW.TrodAll enc P W' 0 sp true f.params.toList args.toList (s.fn H (ds ++ gs)).args pa)
  (hvars : ∀ sp : Nat -> Bool, (∀ p ∈ before, sp p.block = true) -> DataW.TrodVars enc P W' sp s.vars (s.fn H (ds ++ gs)).vars pv)
  (hps : before = pa ++ pv) (hb : Below W.heap.size W W')
  (hok : ∀ (j : Nat) (t : TypeId) (r : Value), f.resultTypes[j]? = some t -> (v.resultList f.resultTypes.size)[j]? = some r -> Value.okWide P W' .any 0 t r) :
  s.post enc P f apart fresh handsOn again W args v W' := by
 have hlt : ∀ p ∈ before, p.block < W.heap.size := fun p hp => hW.lt p hp;have hold : ∀ p ∈ before, (fun b => decide (b < W.heap.size)) p.block = true := fun p hp => by simpa using hlt p hp
 refine ⟨ds, gs, before, [], pa, pv, hW, hres _ _ _, hargs _ hold, hvars _ hold, World.keptBut_mono (fun p hp => ⟨hp, ?_⟩) (hb.frame (· ∈ before)), fun _ => ?_⟩
 ·rw [hps, List.mem_append] at hp;exact Or.inr hp
 ·obtain ⟨_, _, _, _, _, hz, hn⟩ := hW;refine ⟨hok, _, _, ([] ++ pa) ++ pv, ⟨[] ++ pa, pv, trodAll_append (hargs _ (fun _ _ => rfl)) (hres _ _ _), hvars _ (fun _ _ => rfl), rfl, ?_, ?_⟩, ?_⟩
  ·intro b off hp;have hin : MemPlace.cell b off ∈ before := by rw [hps]; simpa using hp
   rw [hb.frozen (hlt _ hin)];exact hz b off hin
  ·intro ha;have := hn ha;rw [hps] at this;simpa using this
  ·intro p hp _;rw [hps];simpa using hp
theorem qmp : ∀ {ts : List TypeId} {vs : List Value} {ds : List (DataW H)} {ps : List MemPlace} {w : World} {b : Nat} {sp : Nat -> Bool} {hd : Bool}, DataW.TrodAll enc P w b sp hd ts vs ds ps -> ds.length = ts.length
 | [], [], [], _, _, _, _, _, _ => rfl
 | [], [], d :: ds, _, _, _, _, _, h => h.elim
 | [], v :: vs, _, _, _, _, _, _, h => by cases h
 | t :: ts, [], _, _, _, _, _, _, h => by cases h
 | t :: ts, v :: vs, [], _, _, _, _, _, h => by cases h
 | t :: ts, v :: vs, d :: ds, ps, w, b, sp, hd, ⟨p, q, h1, h2, e⟩ => by simp [qmp h2]
end
theorem qzi {H : Type} : Sm (H := H) maxLen (fun _ => True) where
 slice := fun es sp _ h => ⟨h, fun _ _ => trivial⟩
 agg := fun _ _ _ _ => trivial
 str := fun _ _ h => h
theorem qpR {P : Program} {H0 : Hints} {lib : FuncId -> Option (List V -> Option V)} (hm : P.follows .mixedOrders = true) (qb2 : qiY P H0)
  (hlib : ∀ g h args r, lib g = some h -> h args = some r -> qbP P g args [] r []) (hl : laidOutB P = true) {k : FuncId} {fn : Func} (hfn : P.funcs[k]? = some fn) (hbody : fn.body.isSome = true)
  {ts : List TypeId} {τs : List Ty} (hps : fn.params.toList = ts) (hts : ts.mapM (qya P) = some τs) (hok : ts.all (okT P 10) = true) (hrd : ts.all (fun t => P.readableRec t && decide (t < P.types.size)) = true)
  {tb : TypeId} (hres : fn.resultTypes = #[tb]) (htb : P.underlying tb = some .bool) {F : denP (τs.map .ty) -> Option Bool}
  (he : qbm P H0 lib ⟨k, τs.map .ty, [(.bool, 0)], F⟩) (hF : ∀ x, qzs maxLen τs x -> F x = some true)
  {s : ChangeSpec} (hv : s.vars = []) (hs : ∀ (H : Type) (ds : List (DataW H)), ds.length = ts.length -> s.fn H ds = { results := [.lit (.bool true)], args := ds })
  (H : Type) (enc : TypeId × Value -> H) (W : World) (base : Nat) (args : Array Value) (ds gs : List (DataW H)) (before : List MemPlace)
  (hval : ∀ (j : Nat) t v, fn.params[j]? = some t -> args[j]? = some v -> Value.okWide P W .any base t v)
  (hW : DataW.Whole enc P fn.params.toList s.vars false W args.toList ds gs before) :
  Calls P k args W fun e W' => ∃ v, e = .returned v /\ s.post enc P fn false true false false W args v W' := by
 have hW' := hW;have hlt : ∀ p ∈ before, p.block < W.heap.size := fun p hp => hW.lt p hp;obtain ⟨p, q, hA, hV, rfl, hfz, hnd⟩ := hW;rw [hv] at hV;obtain ⟨rfl, rfl⟩ := trodVars_none hV;rw [hps] at hA;have hlen := qmp hA;have hval' : ∀ (j : Nat) t v, ts[j]? = some t -> args.toList[j]? = some v -> Value.okWide P W .any base t v := fun j t v h1 h2 =>
  hval j t v (by rw [<- hps] at h1; simpa using h1) (by simpa using h2)
 refine (qu7 hm qb2 hlib hl qzi hfn hbody hts hok he hF hval' hA (fun _ _ => trivial)).mono fun e W' ⟨h1, hb⟩ => ?_;subst h1;have hfs : s.fn H (ds ++ []) = { results := [.lit (.bool true)], args := ds } := by rw [List.append_nil]; exact hs H ds hlen
 refine ⟨_, rfl, qpr (pa := p) (pv := []) hW' ?_ ?_ ?_ rfl hb ?_⟩
 ·intro b sp hd;rw [hfs, hres];exact trodAll_mk1 (shut_bool htb true)
 ·intro sp hsp;rw [hfs, hps];exact qiS hl hb hrd hA (fun x hx => hlt x (by simpa using hx)) sp (fun x hx => hsp x (by simpa using hx))
 ·intro sp _;rw [hfs, hv];rfl
 ·exact ok_one hres rfl (okWide_bool_mk htb true)
end Go.Tx
namespace Go.Proofs.YtkcaaaiihhhnmaaGreat
open Go Go.Ab Go.Tx
theorem own : ownKnob Tryz.prog.godebug = none := by kernel_rfl
theorem qxy : laidOutB Tryz.prog = true := by kernel_rfl
end Go.Proofs.YtkcaaaiihhhnmaaGreat
end
section
namespace Go.Tx
open Go
theorem qgO {n : Int} (h1 : -9223372036854775808 <= n) (h2 : n <= 9223372036854775807) : IntKind.wrap .i64 n = n := by
 rw [IntKind.wrap_i64]; omega
theorem qaf {α : Type} {l : List α} {i : Nat} {a : α} (h : l[i]? = some a) : idx l (i : Int) = some a := by simp [idx, h]
theorem qxX {α : Type} {l l2 : List α} (h : l.length + l2.length <= 4294967296) : app l l2 = some (l ++ l2) := by simp [app, h]
section
variable {σ ρ : Type} {f : σ -> Option (σ ⊕ ρ)}
theorem qjF : ∀ {n m : Nat} {s : σ} {r : ρ}, qcO f n s = some r -> n <= m -> qcO f m s = some r
 | 0, m, s, r, h, _ => by simp [qcO] at h
 | n + 1, 0, s, r, h, hm => by omega
 | n + 1, m + 1, s, r, h, hm => by
  simp only [qcO] at h ⊢;cases hf : f s with
  | none => rw [hf] at h; cases h
  | some x =>
   rw [hf] at h;cases x with
   | inl s' => exact qjF h (by omega)
   | inr r' => exact h
theorem qiG {n : Nat} {s : σ} {r : ρ} (h : qcO f n s = some r) : qU f s = some r := by
 have hex : ∃ n r, qcO f n s = some r := ⟨n, r, h⟩
 cases hl : qU f s with
 | none => exfalso; unfold qU at hl; rw [dif_pos hex] at hl; cases hl
 | some r' =>
  obtain ⟨m, hm⟩ := qg9 hl;have h1 := qjF h (Nat.le_max_left n m);have h2 := qjF hm (Nat.le_max_right n m);rw [<- h1, <- h2]
theorem qlL {s s' : σ} (h : f s = some (.inl s')) : qU f s = qU f s' := by
 cases hl : qU f s' with
 | some r =>
  obtain ⟨n, hn⟩ := qg9 hl;exact qiG (n := n + 1) (by simp [qcO, h, hn])
 | none =>
  cases hl2 : qU f s with
  | none => rfl
  | some r =>
   obtain ⟨n, hn⟩ := qg9 hl2;cases n with
   | zero => simp [qcO] at hn
   | succ n =>
    simp only [qcO, h] at hn;rw [qiG hn] at hl;cases hl
theorem qfn {s : σ} {r : ρ} (h : f s = some (.inr r)) : qU f s = some r := qiG (n := 1) (by simp [qcO, h])
theorem qxA (n : Nat) (I : Nat -> σ -> Prop) (Q : ρ -> Prop)
  (hs : ∀ i s, i <= n -> I i s -> (∃ s', f s = some (.inl s') /\ i < n /\ I (i + 1) s') \/ (∃ r, f s = some (.inr r) /\ Q r)) {s : σ} (h0 : I 0 s) : ∃ r, qU f s = some r /\ Q r := by
 have h : ∀ k i s, n - i = k -> i <= n -> I i s -> ∃ r, qU f s = some r /\ Q r := by
  intro k;induction k with
  | zero =>
   intro i s hk hi hI;rcases hs i s hi hI with ⟨s', _, h, _⟩ | ⟨r, h, hq⟩
   ·omega
   ·exact ⟨r, qfn h, hq⟩
  | succ k ih =>
   intro i s hk hi hI;rcases hs i s hi hI with ⟨s', h, hlt, hI'⟩ | ⟨r, h, hq⟩
   ·obtain ⟨r, hr, hq⟩ := ih (i + 1) s' (by omega) (by omega) hI';exact ⟨r, by rw [qlL h, hr], hq⟩
   ·exact ⟨r, qfn h, hq⟩
 exact h n 0 s (by omega) (by omega) h0
end
def qbl {α ρ : Type} (g : Nat -> α -> Option ρ) : Nat -> List α -> Option ρ
 | _, [] => none
 | k, a :: l => match g k a with
  | some r => some r
  | none => qbl g (k + 1) l
def qxr {ρ : Type} : Option ρ -> Unit ⊕ ρ
 | some r => .inr r
 | none => .inl ()
def stp {ρ : Type} (i : Nat) : Option ρ -> Int ⊕ (Unit ⊕ ρ)
 | some r => .inr (.inr r)
 | none => .inl ((i : Int) + 1)
theorem qvS {α ρ : Type} (l : List α) {f : Int -> Option (Int ⊕ (Unit ⊕ ρ))} (g : Nat -> α -> Option ρ)
  (h : ∀ (i : Nat) (a : α), l[i]? = some a -> f i = some (stp i (g i a)))
  (he : f l.length = some (.inr (.inl ()))) : qU f 0 = some (qxr (qbl g 0 l)) := by
 have key : ∀ (l2 l1 : List α), l1 ++ l2 = l -> qU f (l1.length : Nat) = some (qxr (qbl g l1.length l2)) := by
  intro l2;induction l2 with
  | nil =>
   intro l1 e;have : l1 = l := by simpa using e
   subst this;rw [qfn he]; rfl
  | cons a l2 ih =>
   intro l1 e;have hi : l[l1.length]? = some a := by rw [<- e]; simp
   have hf := h _ _ hi;simp only [qbl];cases hg : g l1.length a with
   | some r => rw [hg] at hf; rw [qfn hf]; rfl
   | none =>
    rw [hg] at hf;rw [qlL hf];have := ih (l1 ++ [a]) (by simp [e]);simpa using this
 simpa using key l [] rfl
def foldI {α β : Type} (g : Nat -> β -> α -> β) : Nat -> β -> List α -> β
 | _, b, [] => b
 | k, b, a :: l => foldI g (k + 1) (g k b a) l
end Go.Tx
end
section
namespace Go.Tx
open Go
def Ok {α : Type} (o : Option α) (Q : α -> Prop) : Prop := ∃ a, o = some a /\ Q a
section
variable {α β σ ρ τ : Type}
theorem qmZ {a : α} {Q : α -> Prop} : Ok (some a) Q ↔ Q a := ⟨fun ⟨_, h, hq⟩ => by cases h; exact hq, fun h => ⟨a, rfl, h⟩⟩
theorem ok_none {Q : α -> Prop} : Ok (none : Option α) Q ↔ False := ⟨fun ⟨_, h, _⟩ => (by cases h), fun h => h.elim⟩
theorem ok_eq {o : Option α} {a : α} : Ok o (fun r => r = a) ↔ o = some a := ⟨fun ⟨_, h, hq⟩ => by rw [h, hq], fun h => ⟨a, h, rfl⟩⟩
theorem Ok.eq {o : Option α} {a : α} (h : Ok o (fun r => r = a)) : o = some a := ok_eq.1 h
theorem Ok.mono {o : Option α} {P Q : α -> Prop} (h : Ok o P) (hq : ∀ a, P a -> Q a) : Ok o Q := by obtain ⟨a, h1, h2⟩ := h; exact ⟨a, h1, hq a h2⟩
theorem Ok.bind {o : Option α} {k : α -> Option β} {P : α -> Prop} {Q : β -> Prop} (h : Ok o P) (hk : ∀ a, P a -> Ok (k a) Q) : Ok (o.bind k) Q := by
 obtain ⟨a, h1, h2⟩ := h; rw [h1]; exact hk a h2
theorem qym {o : Option α} {k : α -> Option β} {Q : β -> Prop} : Ok (o.bind k) Q ↔ Ok o fun a => Ok (k a) Q := by
 cases o with
 | none => simp [ok_none]
 | some a => simp [qmZ]
theorem qmT {l : List α} {a : α} (h : l.length <= 4294967295) : app l [a] = some (l ++ [a]) := qxX (by simp; omega)
theorem qvk {l2 : List α} (h : l2.length <= 4294967296) : app [] l2 = some l2 := by rw [qxX (by simpa using h)]; rfl
theorem qzE {l : List α} {a b : Int} (h : 0 <= a /\ a <= b /\ b <= l.length) : slc l a b = some ((l.take b.toNat).drop a.toNat) := by unfold slc; rw [if_pos h]
def Rnd (o : Option (σ ⊕ ρ)) (I : σ -> Prop) (Q : ρ -> Prop) : Prop := Ok o fun x => match x with
 | .inl s => I s
 | .inr r => Q r
theorem qeA {s : σ} {I : σ -> Prop} {Q : ρ -> Prop} : Rnd (some (.inl s)) I Q ↔ I s := qmZ
theorem qdC {r : ρ} {I : σ -> Prop} {Q : ρ -> Prop} : Rnd (some (.inr r) : Option (σ ⊕ ρ)) I Q ↔ Q r := qmZ
theorem qy0 {f : σ -> Option (σ ⊕ ρ)} (μ : σ -> Nat) (I : σ -> Prop) (Q : ρ -> Prop) {s : σ} (h0 : I s)
  (hs : ∀ s, I s -> Rnd (f s) (fun s' => I s' /\ μ s' < μ s) Q) : Ok (qU f s) Q := by
 have key : ∀ n s, μ s <= n -> I s -> Ok (qU f s) Q := by
  intro n;induction n with
  | zero =>
   intro s hn hI;obtain ⟨x, hx, h⟩ := hs s hI;cases x with
   | inl s' => exact absurd h.2 (by omega)
   | inr r => exact ⟨r, qfn hx, h⟩
  | succ n ih =>
   intro s hn hI;obtain ⟨x, hx, h⟩ := hs s hI;cases x with
   | inl s' => rw [qlL hx]; exact ih s' (by have := h.2; omega) h.1
   | inr r => exact ⟨r, qfn hx, h⟩
 exact key _ s (Nat.le_refl _) h0
theorem qfJ {f : σ -> Option (σ ⊕ ρ)} (n : Nat) (I : Nat -> σ -> Prop) (Q : ρ -> Prop) {s : σ} (h0 : I 0 s)
  (hs : ∀ i s, i <= n -> I i s -> Rnd (f s) (fun s' => i < n /\ I (i + 1) s') Q) : Ok (qU f s) Q := by
 obtain ⟨r, h1, h2⟩ := qxA n I Q (fun i s hi hI => by
  obtain ⟨x, hx, h⟩ := hs i s hi hI;cases x with
  | inl s' => exact .inl ⟨s', hx, h⟩
  | inr r => exact .inr ⟨r, hx, h⟩) h0
 exact ⟨r, h1, h2⟩
theorem qyE {o : Option (α ⊕ β)} {k : α -> Option β} {Q : β -> Prop} : Ok (o.bind (Sum.elim k some)) Q ↔ Ok o fun x => match x with
  | .inl a => Ok (k a) Q
  | .inr b => Q b := by
 rw [qym];cases o with
 | none => simp [ok_none]
 | some x => cases x <;> simp [qmZ]
end
theorem qaT {α : Type} {l : List α} {i : Nat} {a d : α} (h : l[i]? = some a) : l.getD i d = a := by simp [h]
theorem qb7 {α : Type} {l : List α} {i : Nat} (d : α) (h : i < l.length) : l.take (i + 1) = l.take i ++ [l.getD i d] := by
 rw [List.take_add_one]; simp [h]
end Go.Tx
end
section
namespace Go.Tx
open Go
section
variable {α β ρ τ : Type}
theorem qaE {l : List α} {i : Nat} {a : α} (h : l[i]? = some a) : i < l.length := (List.getElem?_eq_some_iff.1 h).1
theorem qaH (l : List α) (K : Int -> Option (Int ⊕ (Unit ⊕ ρ))) (g : Nat -> α -> Option ρ) (h : ∀ (i : Nat) (a : α), l[i]? = some a -> K i = some (stp i (g i a))) :
  qU (fun s => bif decide (s < (l.length : Int)) then K s else some (.inr (.inl ()))) 0 = some (qxr (qbl g 0 l)) := by
 refine qvS l g (fun i a hi => ?_) ?_
 ·have := qaE hi;have e : decide ((i : Int) < (l.length : Int)) = true := by simp <;> omega
  simp only [e, cond_true];exact h i a hi
 ·simp
theorem q7 {o : Option ρ} {k : Unit -> Option ρ} : (some (qxr o)).bind (Sum.elim k some) = (match o with
  | some r => some r
  | none => k ()) := by cases o <;> rfl
theorem qbC {g : Nat -> α -> Option ρ} : ∀ {l : List α} {k : Nat}, qbl g k l = none ↔ ∀ i a, l[i]? = some a -> g (k + i) a = none
 | [], k => by simp [qbl]
 | a :: l, k => by
  simp only [qbl];cases hg : g k a with
  | some r =>
   simp only [reduceCtorEq, false_iff];intro h;have := h 0 a rfl;simp [hg] at this
  | none =>
   simp only
   rw [qbC (l := l) (k := k + 1)];constructor
   ·intro h i b hb;cases i with
    | zero => simp at hb; subst hb; simpa using hg
    | succ i => have := h i b (by simpa using hb); rw [<- this]; congr 1; omega
   ·intro h i b hb;have := h (i + 1) b (by simpa using hb);rw [<- this]; congr 1; omega
theorem qaC {g : Nat -> α -> Option ρ} {r : ρ} : ∀ {l : List α} {k : Nat}, qbl g k l = some r -> ∃ i a, l[i]? = some a /\ g (k + i) a = some r /\ ∀ j b, j < i -> l[j]? = some b -> g (k + j) b = none
 | [], k, h => by simp [qbl] at h
 | a :: l, k, h => by
  simp only [qbl] at h;cases hg : g k a with
  | some r' =>
   rw [hg] at h;simp only [qb] at h;subst h;exact ⟨0, a, rfl, by simpa using hg, fun j b hj => by omega⟩
  | none =>
   rw [hg] at h;obtain ⟨i, b, h1, h2, h3⟩ := qaC (l := l) (k := k + 1) h;refine ⟨i + 1, b, by simpa using h1, by rw [<- h2]; congr 1; omega, fun j c hj hc => ?_⟩;cases j with
   | zero => simp at hc; subst hc; simpa using hg
   | succ j => have := h3 j c (by omega) (by simpa using hc); rw [<- this]; congr 1; omega
theorem qvY (l : List α) (pf : α -> Option Bool) (p : α -> Bool) (h : ∀ x ∈ l, pf x = some (p x)) (hl : l.length <= 1000000000) :
  ((qU (fun (s2 : Int) =>
   bif decide (s2 < (l.length : Int)) then
    (idx l s2).bind fun x3 =>
    (pf x3).bind fun x4 =>
    bif x4 then
     some (.inr (.inr s2))
    else
     some (.inl (IntKind.wrap .i64 (s2 + 1)))
   else
    some (.inr (.inl ()))) 0).bind (Sum.elim (fun (p5 : Unit) =>
  some (-1)) some)).bind (fun x1 => some (decide (x1 >= 0))) = some (l.any p) := by
 rw [qaH l _ (fun i a => if p a then some (i : Int) else none) (fun i a hi => by
  have := qaE hi;rw [qaf hi];simp only [qa];rw [h a (List.mem_of_getElem? hi)];simp only [qa];cases hp : p a
  ·simp only [cond_false, qf, if_false, stp]; rw [qgO (by omega) (by omega)]
  ·simp [stp]), q7]
 cases hf : qbl (fun i a => if p a then some (i : Int) else none) 0 l with
 | none =>
  rw [qbC] at hf;have : l.any p = false := by
   rw [List.any_eq_false];intro x hx;obtain ⟨i, hi⟩ := List.mem_iff_getElem?.1 hx;have := hf i x hi;simpa using this
  rw [this]; rfl
 | some r =>
  obtain ⟨i, a, h1, h2, _⟩ := qaC hf;have hp : p a = true := by
   cases hp : p a
   ·simp [hp] at h2
   ·rfl
  have : l.any p = true := List.any_eq_true.2 ⟨a, List.mem_of_getElem? h1, hp⟩;rw [this];simp only [hp, if_true, qb] at h2;simp only [qa];have : decide (r >= 0) = true := by simp <;> omega
  rw [this]
def qiz : List Int -> Int
 | [] => 0
 | e :: l => if e = 0 then qiz l else e
theorem qnY : ∀ (l : List Int) (k : Nat), qbl (fun _ e => if e = 0 then none else some e) k l = if qiz l = 0 then none else some (qiz l)
 | [], k => rfl
 | e :: l, k => by
  simp only [qbl, qiz];by_cases h : e = 0
  ·simp only [h, if_true]; exact qnY l (k + 1)
  ·simp [h]
theorem qu8 (l : List Int) (hl : l.length <= 1000000000) :
  (qU (fun (s2 : Int) =>
   bif decide (s2 < (l.length : Int)) then
    (idx l s2).bind fun x3 =>
    bif !(decide (x3 = 0)) then
     some (.inr (.inr x3))
    else
     some (.inl (IntKind.wrap .i64 (s2 + 1)))
   else
    some (.inr (.inl ()))) 0).bind (Sum.elim (fun (p4 : Unit) => some 0) some) = some (qiz l) := by
 rw [qaH l _ (fun _ e => if e = 0 then none else some e) (fun i a hi => by
  have := qaE hi;rw [qaf hi];simp only [qa];by_cases h : a = 0
  ·simp only [h, decide_true, Bool.not_true, cond_false, if_true, stp]; rw [qgO (by omega) (by omega)]
  ·simp [h, stp]), q7, qnY]
 by_cases h : qiz l = 0
 ·simp [h]
 ·simp [h]
def qaJ (g : Nat -> α -> Int) : Nat -> List α -> Int × Int
 | _, [] => (0, 0)
 | k, a :: l => if g k a = 0 then qaJ g (k + 1) l else ((k : Int), g k a)
theorem qcW (g : Nat -> α -> Int) : ∀ (l : List α) (k : Nat), (match qbl (fun i a => if g i a = 0 then none else some ((i : Int), g i a)) k l with
  | some r => some r
  | none => some (0, 0)) = some (qaJ g k l)
 | [], k => rfl
 | a :: l, k => by
  simp only [qbl, qaJ];by_cases h : g k a = 0
  ·simp only [h, if_true]; exact qcW g l (k + 1)
  ·simp [h]
theorem qso (l : List α) (cb : Int -> α -> Option Int) (g : Nat -> α -> Int) (h : ∀ (i : Nat) a, l[i]? = some a -> cb i a = some (g i a)) (hl : l.length <= 1000000000) :
  (qU (fun (s2 : Int) =>
   bif decide (s2 < (l.length : Int)) then
    (idx l s2).bind fun x3 =>
    (cb s2 x3).bind fun x4 =>
    bif !(decide (x4 = 0)) then
     some (.inr (.inr (s2, x4)))
    else
     some (.inl (IntKind.wrap .i64 (s2 + 1)))
   else
    some (.inr (.inl ()))) 0).bind (Sum.elim (fun (p5 : Unit) =>
  some (0, 0)) some) = some (qaJ g 0 l) := by
 rw [qaH l _ (fun i a => if g i a = 0 then none else some ((i : Int), g i a)) (fun i a hi => by
  have := qaE hi;rw [qaf hi];simp only [qa];rw [h i a hi];simp only [qa];by_cases h : g i a = 0
  ·simp only [h, decide_true, Bool.not_true, cond_false, if_true, stp]; rw [qgO (by omega) (by omega)]
  ·simp [h, stp]), q7, <- qcW g l 0]
 cases qbl (fun i a => if g i a = 0 then none else some ((i : Int), g i a)) 0 l <;> rfl
theorem qd0 {g : Nat -> α -> Int} : ∀ {l : List α} {k : Nat}, (qaJ g k l).2 = 0 ↔ ∀ i a, l[i]? = some a -> g (k + i) a = 0
 | [], k => by simp [qaJ]
 | a :: l, k => by
  simp only [qaJ];by_cases h : g k a = 0
  ·rw [if_pos h, qd0];constructor
   ·intro hh i b hb;cases i with
    | zero => simp at hb; subst hb; simpa using h
    | succ i => have := hh i b (by simpa using hb); rw [<- this]; congr 1; omega
   ·intro hh i b hb;have := hh (i + 1) b (by simpa using hb);rw [<- this]; congr 1; omega
  ·rw [if_neg h];constructor
   ·intro hh; exact absurd hh h
   ·intro hh; exact absurd (by simpa using hh 0 a rfl) h
end
end Go.Tx
end
section
namespace Go.Tx
open Go
end Go.Tx
end
section
namespace Go.Tx
open Go
section
variable {α : Type}
end
end Go.Tx
end
section
namespace Go.Tx
open Go
section
variable {α β : Type}
end
end Go.Tx
end
section
set_option maxRecDepth 100000
namespace Go.Proofs.YtkcaaaiihhhnmaaGreat
open Go Go.Ab Go.Tx
noncomputable section
@[reducible] def I : Ty := .int .i64
@[reducible] def w64 (n : Int) : Int := IntKind.wrap .i64 n
def qo8 : List (List Tmp × FuncId × Kind × Join) -> List Tmp -> FuncId -> Kind -> Option Join
 | [], _, _, _ => none
 | (c, f, k, j) :: l, c', f', k' => if f = f' then (if k = k' then (if c = c' then some j else qo8 l c' f' k') else qo8 l c' f' k') else qo8 l c' f' k'
def qrJ : Nat := 12
def qca (js : List (List Tmp × FuncId × Kind × Join)) (inl : List (List Tmp × FuncId × Tmp)) : TH where
 lib := fun g => decide (g = qrJ)
 join := qo8 js
 inl := fun c f d => inl.any fun (c', f', d') => decide (f = f') && decide (d = d') && decide (c = c')
def Lb : FuncId -> Option (List V -> Option V) := fun g => if g = qrJ then some (fun args => match args with
  | [] => some (.val (.bool true))
  | _ => none) else none
theorem hJ {js : List (List Tmp × FuncId × Kind × Join)} {inl : List (List Tmp × FuncId × Tmp)} : ∀ g, (qca js inl).lib g = false -> Lb g = none := fun g h => by
 simp only [qca, decide_eq_false_iff_not] at h;simp [Lb, h]
def KT (e : Entry) (j : TH) (l : List Entry) (n : Nat) : Prop := ∀ x : denP e.ps, fnT Tryz.prog Hn.hints j (qne l) n e.g (qem e.ps x) e.rs = e.F x
abbrev OT (e : Entry) : Prop := qbm Tryz.prog Hn.hints Lb e
theorem entK {e : Entry} {j : TH} {l : List Entry} {n : Nat} (h : TOk Tryz.prog Hn.hints Lb (qne l)) (hj : ∀ g, j.lib g = false -> Lb g = none) (k : KT e j l n) : OT e := qcE h hj n e.g e.ps e.rs e.F k
abbrev gT : Ty := .pair I (.pair I .unit)
def qib : Option Bool := some true
def qcJ : Entry := ⟨12, [], [(.bool, 0)], fun _ => qib⟩
theorem qpl : qbm Tryz.prog Hn.hints Lb qcJ := fun x y h vs hv => by
 obtain rfl : true = y := Option.some.inj h;simp only [qcJ, qem, RVL] at hv;subst hv;refine ⟨.val (.bool true), ⟨1, fun m hm => ?_⟩, by simp [qnh, qcJ, ofL, qbW, ofTy, RV, RTy]⟩;obtain ⟨m', rfl⟩ : ∃ m', m = m' + 1 := ⟨m - 1, by omega⟩
 simp [qq9, Lb, qrJ, qcJ]
def qn (a0 : Int) (a1 : Int) (a2 : Int) : Option Bool :=
 (bif decide (a1 <= a0) then
   some (decide (a0 <= a2))
  else
   some false).bind fun (p1 : Bool) =>
 some p1
def qp : Entry := ⟨84, [.ty I, .ty I, .ty I], [(.bool, 0)], fun x => qn x.1 x.2.1 x.2.2⟩
def qex : TH := qca [([], 84, .region 1, { lv := [⟨none, 6, 0⟩], ps := [(.bool, 0)], D := ⟨32704⟩ })] []
theorem qei : KT qp qex [] 40 := fun x => by kernel_rfl
theorem qS : OT qp := entK qq hJ qei
def qy (a0 : Int) (a1 : Int) : Option Bool :=
 (qn a0 (w64 (0 - a1)) a1).bind fun x1 =>
 some x1
def qE : Entry := ⟨94, [.ty I, .ty I], [(.bool, 0)], fun x => qy x.1 x.2⟩
def qdE : TH := qca [] []
theorem qdx : KT qE qdE [qp] 40 := fun x => by kernel_rfl
theorem qaD : OT qE := entK (qh qS qq) hJ qdx
def qm (a0 : Bool) (a1 : Int) : Option Int :=
 bif a0 then
  some 0
 else
  some a1
def qt : Entry := ⟨72, [.ty .bool, .ty I], [(I, 0)], fun x => qm x.1 x.2⟩
def qd7 : TH := qca [] []
theorem qeu : KT qt qd7 [] 40 := fun x => by kernel_rfl
theorem qV : OT qt := entK qq hJ qeu
def qx (a0 : (List Int)) : Option Int :=
 (qU (fun (s2 : Int) =>
   bif decide (s2 < (a0.length : Int)) then
    (idx a0 s2).bind fun x3 =>
    bif !(decide (x3 = 0)) then
     some (.inr (.inr x3))
    else
     some (.inl (w64 (s2 + 1)))
   else
    some (.inr (.inl ()))) 0).bind (Sum.elim (fun (p4 : Unit) =>
 some 0) some)
def qD : Entry := ⟨71, [.ty (.sl I)], [(I, 0)], fun x => qx x⟩
def qeW : TH := qca [([], 71, .block 0, { lv := [], ps := [], abn := true, D := ⟨32656⟩ }),
 ([], 71, .loop 0, { lv := [⟨none, 7, 0⟩], ps := [(I, 0)], D := ⟨32656⟩ })] []
theorem qe6 : KT qD qeW [] 40 := fun x => by kernel_rfl
theorem qah : OT qD := entK qq hJ qe6
def qeq (a0 : Int) (a1 : Int) (a2 : Int) : Option Bool :=
 (bif decide (a1 <= a0) then
   some (decide (a0 <= a2))
  else
   some false).bind fun (p1 : Bool) =>
 some p1
def qdQ : Entry := ⟨18, [.ty I, .ty I, .ty I], [(.bool, 0)], fun x => qeq x.1 x.2.1 x.2.2⟩
def qoR : TH := qca [([], 18, .region 1, { lv := [⟨none, 6, 0⟩], ps := [(.bool, 0)], D := ⟨32704⟩ })] []
theorem qo1 : KT qdQ qoR [] 40 := fun x => by kernel_rfl
theorem qjc : OT qdQ := entK qq hJ qo1
def qe5 (a0 : (List (List UInt8))) : Option (List (List UInt8)) :=
 (app [] a0).bind fun x1 =>
 some x1
def qdA : Entry := ⟨85, [.ty (.sl .str)], [((.sl .str), 1)], fun x => qe5 x⟩
def qkM : TH := qca [] []
theorem qk2 : KT qdA qkM [] 40 := fun x => by kernel_rfl
theorem qkN : OT qdA := entK qq hJ qk2
def qbh (a0 : (List UInt8)) : Option Bool :=
 (qU (fun (s2 : Int) =>
   bif decide (s2 < (a0.length : Int)) then
    (idx a0 s2).bind fun x3 =>
    ((qn (w64 ((x3.toNat : Int))) (97 : Int) (122 : Int)).bind fun x4 =>
     bif x4 then
      some true
     else
      (qn (w64 ((x3.toNat : Int))) (65 : Int) (90 : Int)).bind fun x5 =>
      some x5).bind fun (p6 : Bool) =>
    (bif !p6 then
      bif decide (s2 = 0) then
       some true
      else
       bif !(decide (w64 ((x3.toNat : Int)) = 45)) then
        (qn (w64 ((x3.toNat : Int))) (48 : Int) (57 : Int)).bind fun x7 =>
        some (!x7)
       else
        some false
     else
      some false).bind fun (p8 : Bool) =>
    bif p8 then
     some (.inr (.inr false))
    else
     some (.inl (w64 (s2 + 1)))
   else
    some (.inr (.inl ()))) 0).bind (Sum.elim (fun (p9 : Unit) =>
 (qn (a0.length : Int) (1 : Int) (12 : Int)).bind fun x10 =>
 some x10) some)
def qeg : Entry := ⟨138, [.ty .str], [(.bool, 0)], fun x => qbh x⟩
def qlE : TH := qca [([], 138, .block 0, { lv := [], ps := [], abn := true, D := ⟨137438953272⟩ }),
 ([], 138, .loop 0, { lv := [⟨none, 8, 0⟩], ps := [(I, 0)], D := ⟨137438953272⟩ }),
 ([], 138, .region 5, { lv := [⟨none, 5, 0⟩], ps := [(.bool, 0)], D := ⟨2064416⟩ }),
 ([], 138, .region 6, { lv := [⟨none, 35, 0⟩], ps := [(.bool, 0)], D := ⟨68717379584⟩ })] []
theorem qmA : KT qeg qlE [qp] 40 := fun x => by kernel_rfl
theorem qlC : OT qeg := entK (qh qS qq) hJ qmA
def qer (a0 : (List UInt8)) : Option Bool :=
 (bif decide ((a0.length : Int) < 1) then
   some true
  else
   some (decide ((a0.length : Int) > 12))).bind fun (p1 : Bool) =>
 bif p1 then
  some false
 else
  (qU (fun (s3 : Int) =>
    bif decide (s3 < (a0.length : Int)) then
     (idx a0 s3).bind fun x4 =>
     (bif decide ((x4.toNat : Int) >= 97) then
       bif decide ((x4.toNat : Int) <= 122) then
        some true
       else
        bif decide ((x4.toNat : Int) >= 65) then
         some (decide ((x4.toNat : Int) <= 90))
        else
         some false
      else
       bif decide ((x4.toNat : Int) >= 65) then
        some (decide ((x4.toNat : Int) <= 90))
       else
        some false).bind fun (p5 : Bool) =>
     (bif !p5 then
       bif decide (s3 = 0) then
        some true
       else
        bif !(decide ((x4.toNat : Int) = 45)) then
         bif decide ((x4.toNat : Int) < 48) then
          some true
         else
          some (decide ((x4.toNat : Int) > 57))
        else
         some false
      else
       some false).bind fun (p6 : Bool) =>
     bif p6 then
      some (.inr (.inr false))
     else
      some (.inl (w64 (s3 + 1)))
    else
     some (.inr (.inl ()))) 0).bind (Sum.elim (fun (p7 : Unit) =>
  some true) some)
def qfY : Entry := ⟨88, [.ty .str], [(.bool, 0)], fun x => qer x⟩
def qoN : TH := qca [([], 88, .region 1, { lv := [⟨none, 13, 0⟩], ps := [(.bool, 0)], D := ⟨16320⟩ }),
 ([], 88, .block 0, { lv := [], ps := [], abn := true, D := ⟨36028797018947640⟩ }),
 ([], 88, .loop 0, { lv := [⟨none, 3, 0⟩], ps := [(I, 0)], D := ⟨36028797018947640⟩ }),
 ([], 88, .region 7, { lv := [⟨none, 5, 0⟩], ps := [(.bool, 0)], D := ⟨137430564896⟩ }),
 ([], 88, .region 8, { lv := [⟨none, 54, 0⟩], ps := [(.bool, 0)], D := ⟨36028659580010496⟩ })] []
theorem qoq : KT qfY qoN [] 40 := fun x => by kernel_rfl
theorem qoL : OT qfY := entK qq hJ qoq
def qeK (a0 : (List (List UInt8))) (a1 : (List UInt8)) : Option Bool :=
 (qU (fun (s2 : Int) =>
   bif decide (s2 < (a0.length : Int)) then
    (idx a0 s2).bind fun x3 =>
    bif decide (x3 = a1) then
     some (.inr (.inr true))
    else
     some (.inl (w64 (s2 + 1)))
   else
    some (.inr (.inl ()))) 0).bind (Sum.elim (fun (p4 : Unit) =>
 some false) some)
def qe2 : Entry := ⟨89, [.ty (.sl .str), .ty .str], [(.bool, 0)], fun x => qeK x.1 x.2⟩
def qm8 : TH := qca [([], 89, .block 0, { lv := [], ps := [], abn := true, D := ⟨262112⟩ }),
 ([], 89, .loop 0, { lv := [⟨none, 5, 0⟩], ps := [(I, 0)], D := ⟨262112⟩ })] []
theorem qnl : KT qe2 qm8 [] 40 := fun x => by kernel_rfl
theorem qnj : OT qe2 := entK qq hJ qnl
def qai (a0 : (Int × Int × Int × Int × Int × Unit)) : Option Int :=
 ((qy a0.1 (60 : Int)).bind fun x1 =>
  bif x1 then
   (qy a0.2.1 (60 : Int)).bind fun x2 =>
   bif x2 then
    (qn a0.2.2.1 (1 : Int) (8 : Int)).bind fun x3 =>
    bif x3 then
     (qn a0.2.2.2.1 (1 : Int) (3 : Int)).bind fun x4 =>
     bif x4 then
      (qn a0.2.2.2.2.1 (1 : Int) (6 : Int)).bind fun x5 =>
      some x5
     else
      some false
    else
     some false
   else
    some false
  else
   some false).bind fun (p6 : Bool) =>
 (qm p6 (2 : Int)).bind fun x7 =>
 (qm (decide (a0.1 <= a0.2.1)) (9 : Int)).bind fun x8 =>
 (qx ([x7, x8])).bind fun x9 =>
 some x9
def qJ : Entry := ⟨37, [.ty (.pair I (.pair I (.pair I gT)))], [(I, 0)], fun x => qai x⟩
def qbU : TH := qca [([], 37, .region 1, { lv := [⟨none, 3, 0⟩], ps := [(.bool, 0)], D := ⟨536870904⟩, rs := [⟨0, 1⟩], Dn := ⟨502233544⟩ })] []
theorem qbR : KT qJ qbU [qD, qE, qt, qp] 40 := fun x => by kernel_rfl
theorem qbQ : OT qJ := entK (qh qah (qh qaD (qh qV (qh qS qq)))) hJ qbR
def qaq (a0 : (Int × Int × Int × Int × Int × Unit)) (a1 : (Int × Int × Int × Unit)) : Option Int :=
 ((qn a1.1 a0.1 a0.2.1).bind fun x1 =>
  bif x1 then
   (qy a1.2.1 a0.2.2.1).bind fun x2 =>
   bif x2 then
    (qy a1.2.2.1 a0.2.2.2.1).bind fun x3 =>
    some x3
   else
    some false
  else
   some false).bind fun (p4 : Bool) =>
 (qai a0).bind fun x5 =>
 (qm p4 (2 : Int)).bind fun x6 =>
 (qx ([x5, x6])).bind fun x7 =>
 some x7
def qM : Entry := ⟨91, [.ty (.pair I (.pair I (.pair I gT))), .ty (.pair I gT)], [(I, 0)], fun x => qaq x.1 x.2⟩
def qcq : TH := qca [([], 91, .region 1, { lv := [⟨none, 5, 0⟩], ps := [(.bool, 0)], D := ⟨536870880⟩, rs := [⟨0, 2⟩, ⟨0, 3⟩], Dn := ⟨494593184⟩ })] []
theorem qch : KT qM qcq [qJ, qD, qE, qt, qp] 40 := fun x => by kernel_rfl
theorem qci : OT qM := entK (qh qbQ (qh qah (qh qaD (qh qV (qh qS qq))))) hJ qch
def qbc (a0 : (Int × Int × Int × Unit)) : Option Bool :=
 (bif decide (a0.2.1 = 0) then
   some (decide (a0.2.2.1 = 0))
  else
   some false).bind fun (p1 : Bool) =>
 some p1
def q9 : Entry := ⟨95, [.ty (.pair I gT)], [(.bool, 0)], fun x => qbc x⟩
def qeh : TH := qca [([], 95, .region 1, { lv := [⟨none, 2, 0⟩], ps := [(.bool, 0)], D := ⟨2044⟩, rs := [⟨0, 1⟩], Dn := ⟨1908⟩ })] []
theorem qen : KT q9 qeh [] 40 := fun x => by kernel_rfl
theorem qd3 : OT q9 := entK qq hJ qen
def qa8 (a0 : (Int × Int × Int × Int × Int × Unit)) (a1 : (Int × Int × Int × Unit)) (a2 : Int) : Option ((Int × Int × Int × Unit) × Bool) :=
 ((qy a2 a0.2.2.2.1).bind fun x1 =>
  bif !x1 then
   some true
  else
   (qy (w64 (a2 - a1.2.2.1)) a0.2.2.2.2.1).bind fun x2 =>
   some (!x2)).bind fun (p3 : Bool) =>
 bif p3 then
  some (a1, false)
 else
  ((qy (w64 (a1.2.1 + a2)) a0.2.2.1).bind fun x4 =>
   bif x4 then
    (qn (w64 (a1.1 + (w64 (a1.2.1 + a2)))) a0.1 a0.2.1).bind fun x5 =>
    some (x5, w64 (a1.1 + (w64 (a1.2.1 + a2))), w64 (a1.2.1 + a2), a2)
   else
    some (false, w64 (a1.1 + (w64 (a1.2.1 + a2))), w64 (a1.2.1 + a2), a2)).bind fun (p6 : (Bool × Int × Int × Int)) =>
  some ((p6.2.1, p6.2.2.1, p6.2.2.2, ()), p6.1)
def qaa : Entry := ⟨92, [.ty (.pair I (.pair I (.pair I gT))), .ty (.pair I gT), .ty I], [((.pair I gT), 0), (.bool, 0)], fun x => qa8 x.1 x.2.1 x.2.2⟩
def qec : TH := qca [([], 92, .region 1, { lv := [⟨none, 22, 0⟩], ps := [(.bool, 0)], D := ⟨8388352⟩, rs := [⟨0, 3⟩, ⟨0, 4⟩], Dn := ⟨8092928⟩ }),
 ([], 92, .region 5, { lv := [⟨none, 7, 0⟩, ⟨some 0, 6, 0⟩, ⟨some 0, 6, 1⟩, ⟨some 0, 6, 2⟩], ps := [(.bool, 0), (I, 0), (I, 0), (I, 0)], D := ⟨18014261070528640⟩, wr := [⟨0, 6⟩], rs := [⟨0, 3⟩, ⟨0, 4⟩], Dn := ⟨16095338402152576⟩ })] []
theorem qed : KT qaa qec [qE, qp] 40 := fun x => by kernel_rfl
theorem qd4 : OT qaa := entK (qh qaD (qh qS qq)) hJ qed
def qcm (a0 : (Int × Int × Int × Int × Int × Unit)) (a1 : (Int × Int × Int × Unit)) : Option ((List Int) × Bool) :=
 (qU (fun (s2 : ((List (Int × Int × Int × Int × Unit)) × Int × (List (Int × Int × Int × Unit)))) =>
   bif decide (s2.2.1 < (s2.1.length : Int)) then
    (idx s2.1 s2.2.1).bind fun x3 =>
    (qbc (x3.1, x3.2.1, x3.2.2.1, ())).bind fun x4 =>
    bif x4 then
     (qU (fun (s7 : ((List Int) × Int)) =>
       (idx s2.1 s7.2).bind fun x8 =>
       bif decide (x8.2.2.2.1 >= 0) then
        (idx s2.1 s7.2).bind fun x9 =>
        (app s7.1 ([x9.2.2.1])).bind fun x10 =>
        (idx s2.1 s7.2).bind fun x11 =>
        some (.inl (x10, x11.2.2.2.1))
       else
        some (.inr s7.1)) ([], s2.2.1)).bind fun (p12 : (List Int)) =>
     (qza p12).bind fun x13 =>
     some (.inr (.inr (x13, true)))
    else
     (qU (fun (s15 : ((List (Int × Int × Int × Int × Unit)) × Int × (List (Int × Int × Int × Unit)))) =>
       bif decide (s15.2.1 <= a0.2.2.2.1) then
        (idx s15.1 s2.2.1).bind fun x16 =>
        (qa8 a0 (x16.1, x16.2.1, x16.2.2.1, ()) s15.2.1).bind fun x17 =>
        (bif x17.2 then
          some (!(qgj (.pair I gT) s15.2.2 x17.1))
         else
          some false).bind fun (p18 : Bool) =>
        (bif p18 then
          (app s15.1 ([(x17.1.1, x17.1.2.1, x17.1.2.2.1, s2.2.1, ())])).bind fun x19 =>
          some (x19, qkq (.pair I gT) s15.2.2 x17.1)
         else
          some (s15.1, s15.2.2)).bind fun (p20 : ((List (Int × Int × Int × Int × Unit)) × (List (Int × Int × Int × Unit)))) =>
        some (.inl (p20.1, w64 (s15.2.1 + 1), p20.2))
       else
        some (.inr (s15.1, s15.2.2))) (s2.1, w64 (0 - a0.2.2.2.1), s2.2.2)).bind fun (p21 : ((List (Int × Int × Int × Int × Unit)) × (List (Int × Int × Int × Unit)))) =>
     some (.inl (p21.1, w64 (s2.2.1 + 1), p21.2))
   else
    some (.inr (.inl ()))) ([(a1.1, a1.2.1, a1.2.2.1, (-1), ())], 0, qkq (.pair I gT) [] a1)).bind (Sum.elim (fun (p22 : Unit) =>
 some ([], false)) some)
def qav : Entry := ⟨93, [.ty (.pair I (.pair I (.pair I gT))), .ty (.pair I gT)], [((.sl I), 1), (.bool, 0)], fun x => qcm x.1 x.2⟩
def qfR : TH := qca [([], 93, .block 0, { lv := [], ps := [], abn := true, D := ⟨2475880078570760549797216064⟩, wr := [⟨0, 12⟩, ⟨0, 16401⟩] }),
 ([], 93, .loop 0, { lv := [⟨none, 6, 0⟩, ⟨none, 8, 0⟩, ⟨some 0, 16401, 0⟩], ps := [((.sl (.pair I (.pair I gT))), 1), (I, 0), ((.mset (.pair I gT)), 0)], D := ⟨2475880078570760549797216064⟩, wr := [⟨0, 12⟩, ⟨0, 16401⟩], rs := [⟨0, 2⟩], Dn := ⟨2475880077345781451152441152⟩ }),
 ([], 93, .block 2, { lv := [⟨none, 9, 0⟩], ps := [((.sl I), 1)], D := ⟨9007190664807936⟩ }),
 ([], 93, .loop 2, { lv := [⟨none, 9, 0⟩, ⟨none, 10, 0⟩], ps := [((.sl I), 1), (I, 0)], D := ⟨9007190664807936⟩ }),
 ([], 93, .block 4, { lv := [⟨none, 6, 0⟩, ⟨some 0, 16401, 0⟩], ps := [((.sl (.pair I (.pair I gT))), 1), ((.mset (.pair I gT)), 0)], D := ⟨2475880077994299797494839872⟩, wr := [⟨0, 12⟩, ⟨0, 16401⟩], rs := [⟨0, 2⟩], Dn := ⟨2475880076841378292887992896⟩ }),
 ([], 93, .loop 4, { lv := [⟨none, 6, 0⟩, ⟨none, 11, 0⟩, ⟨some 0, 16401, 0⟩], ps := [((.sl (.pair I (.pair I gT))), 1), (I, 0), ((.mset (.pair I gT)), 0)], D := ⟨2475880077994299797494839872⟩, wr := [⟨0, 12⟩, ⟨0, 16401⟩], rs := [⟨0, 2⟩, ⟨0, 12⟩, ⟨0, 16401⟩], Dn := ⟨2465906438829557602196662848⟩ }),
 ([], 93, .region 18, { lv := [⟨none, 82, 0⟩], ps := [(.bool, 0)], D := ⟨9595848693191119074230272⟩, rs := [⟨0, 16401⟩], Dn := ⟨9293617238287461780553728⟩ }),
 ([], 93, .cond 82, { lv := [⟨none, 6, 0⟩, ⟨some 0, 16401, 0⟩], ps := [((.sl (.pair I (.pair I gT))), 1), ((.mset (.pair I gT)), 0)], D := ⟨2466208672013843516400599104⟩, wr := [⟨0, 16401⟩], rs := [⟨0, 16401⟩], Dn := ⟨2456537265456926483002949696⟩ })] []
theorem qfH : KT qav qfR [q9, qaa] 40 := fun x => by kernel_rfl
theorem qfw : OT qav := entK (qh qd3 (qh qd4 qq)) hJ qfH
def qaY (a0 : (Int × Int × Int × Int × Int × Unit)) (a1 : (Int × Int × Int × Unit)) : Option ((List Int) × Int) :=
 (qaq a0 a1).bind fun x1 =>
 bif !(decide (x1 = 0)) then
  some ([], x1)
 else
  (qcm a0 a1).bind fun x2 =>
  (qm x2.2 (12 : Int)).bind fun x3 =>
  some (x2.1, x3)
def qW : Entry := ⟨38, [.ty (.pair I (.pair I (.pair I gT))), .ty (.pair I gT)], [((.sl I), 1), (I, 0)], fun x => qaY x.1 x.2⟩
def qcY : TH := qca [] []
theorem qc3 : KT qW qcY [qM, qav, qt] 40 := fun x => by kernel_rfl
theorem qft : OT qW := entK (qh qci (qh qfw (qh qV qq))) hJ qc3
def qbL (a0 : (List Int)) : Option (List Int) :=
 (app [] a0).bind fun x1 =>
 some x1
def qcB : Entry := ⟨41, [.ty (.sl I)], [((.sl I), 1)], fun x => qbL x⟩
def qmf : TH := qca [] []
theorem qlx : KT qcB qmf [] 40 := fun x => by kernel_rfl
theorem qgN : OT qcB := entK qq hJ qlx
def qg5 (a0 : (List Int)) (a1 : Int) : Option Bool :=
 (qU (fun (s2 : Int) =>
   bif decide (s2 < (a0.length : Int)) then
    (idx a0 s2).bind fun x3 =>
    bif decide (x3 = a1) then
     some (.inr (.inr true))
    else
     some (.inl (w64 (s2 + 1)))
   else
    some (.inr (.inl ()))) 0).bind (Sum.elim (fun (p4 : Unit) =>
 some false) some)
def qg4 : Entry := ⟨61, [.ty (.sl I), .ty I], [(.bool, 0)], fun x => qg5 x.1 x.2⟩
def qty : TH := qca [([], 61, .block 0, { lv := [], ps := [], abn := true, D := ⟨262112⟩ }),
 ([], 61, .loop 0, { lv := [⟨none, 5, 0⟩], ps := [(I, 0)], D := ⟨262112⟩ })] []
theorem qtG : KT qg4 qty [] 40 := fun x => by kernel_rfl
theorem qnZ : OT qg4 := entK qq hJ qtG
def qc0 (a0 : ((List Int) × (List Int) × Unit)) : Option Bool :=
 (bif decide ((a0.1.length : Int) <= 10) then
   some (decide ((a0.2.1.length : Int) <= 10))
  else
   some false).bind fun (p1 : Bool) =>
 some p1
def qgb : Entry := ⟨97, [.ty (.pair (.sl I) (.pair (.sl I) .unit))], [(.bool, 0)], fun x => qc0 x⟩
def qoH : TH := qca [([], 97, .region 1, { lv := [⟨none, 2, 0⟩], ps := [(.bool, 0)], D := ⟨8188⟩, rs := [⟨0, 1⟩], Dn := ⟨7924⟩ })] []
theorem qpa : KT qgb qoH [] 40 := fun x => by kernel_rfl
theorem qoP : OT qgb := entK qq hJ qpa
def qi1 (a0 : ((List (List UInt8)) × (List ((List UInt8) × (List Int) × (List Int) × (List Int) × (List Int) × Unit)) × (List ((List Int) × (List Int) × Unit)) × Unit)) : Option Bool :=
 (bif decide ((a0.1.length : Int) > 10) then
   some true
  else
   bif decide ((a0.2.1.length : Int) > 12) then
    some true
   else
    some (decide ((a0.2.2.1.length : Int) > 6))).bind fun (p1 : Bool) =>
 bif p1 then
  some false
 else
  (qU (fun (s3 : Int) =>
    bif decide (s3 < (a0.1.length : Int)) then
     (idx a0.1 s3).bind fun x4 =>
     bif decide ((x4.length : Int) > 30) then
      some (.inr (.inr false))
     else
      some (.inl (w64 (s3 + 1)))
    else
     some (.inr (.inl ()))) 0).bind (Sum.elim (fun (p5 : Unit) =>
  (qU (fun (s7 : Int) =>
    bif decide (s7 < (a0.2.1.length : Int)) then
     ((idx a0.2.1 s7).bind fun x8 =>
      bif decide ((x8.1.length : Int) > 30) then
       some true
      else
       (idx a0.2.1 s7).bind fun x9 =>
       (qc0 (x9.2.1, x9.2.2.1, ())).bind fun x10 =>
       bif !x10 then
        some true
       else
        (idx a0.2.1 s7).bind fun x11 =>
        (qc0 (x11.2.2.2.1, x11.2.2.2.2.1, ())).bind fun x12 =>
        some (!x12)).bind fun (p13 : Bool) =>
     bif p13 then
      some (.inr (.inr false))
     else
      some (.inl (w64 (s7 + 1)))
    else
     some (.inr (.inl ()))) 0).bind (Sum.elim (fun (p14 : Unit) =>
  (qU (fun (s16 : Int) =>
    bif decide (s16 < (a0.2.2.1.length : Int)) then
     (idx a0.2.2.1 s16).bind fun x17 =>
     (qc0 x17).bind fun x18 =>
     bif !x18 then
      some (.inr (.inr false))
     else
      some (.inl (w64 (s16 + 1)))
    else
     some (.inr (.inl ()))) 0).bind (Sum.elim (fun (p19 : Unit) =>
  some true) some)) some)) some)
def qir : Entry := ⟨45, [.ty (.pair (.sl .str) (.pair (.sl (.pair .str (.pair (.sl I) (.pair (.sl I) (.pair (.sl I) (.pair (.sl I) .unit)))))) (.pair (.sl (.pair (.sl I) (.pair (.sl I) .unit))) .unit)))], [(.bool, 0)], fun x => qi1 x⟩
def qrb : TH := qca [([], 45, .region 1, { lv := [⟨none, 21, 0⟩], ps := [(.bool, 0)], D := ⟨4194240⟩, rs := [⟨0, 1⟩], Dn := ⟨4061056⟩ }),
 ([], 45, .block 0, { lv := [], ps := [], abn := true, D := ⟨68715282440⟩, rs := [⟨0, 1⟩], Dn := ⟨68706893832⟩ }),
 ([], 45, .loop 0, { lv := [⟨none, 3, 0⟩], ps := [(I, 0)], D := ⟨68715282440⟩, rs := [⟨0, 1⟩], Dn := ⟨68170022920⟩ }),
 ([], 45, .block 2, { lv := [], ps := [], abn := true, D := ⟨2361183241366103130128⟩, rs := [⟨0, 1⟩], Dn := ⟨2361183241228664176656⟩ }),
 ([], 45, .loop 2, { lv := [⟨none, 4, 0⟩], ps := [(I, 0)], D := ⟨2361183241366103130128⟩, rs := [⟨0, 1⟩], Dn := ⟨2356567042814516396048⟩ }),
 ([], 45, .region 11, { lv := [⟨none, 70, 0⟩], ps := [(.bool, 0)], D := ⟨2361183232638729584640⟩, rs := [⟨0, 1⟩], Dn := ⟨2356567034224581804032⟩ }),
 ([], 45, .block 4, { lv := [], ps := [], abn := true, D := ⟨38683265044426698767990816⟩, rs := [⟨0, 1⟩], Dn := ⟨38678542677943829122777120⟩ }),
 ([], 45, .loop 4, { lv := [⟨none, 5, 0⟩], ps := [(I, 0)], D := ⟨38683265044426698767990816⟩, rs := [⟨0, 1⟩], Dn := ⟨38376311223040171829100576⟩ })] []
theorem qrA : KT qir qrb [qgb] 40 := fun x => by kernel_rfl
theorem qre : OT qir := entK (qh qoP qq) hJ qrA
def qau (a0 : ((List Int) × (List Int) × Unit)) : Option ((List Int) × (List Int) × Unit) :=
 (qbL a0.1).bind fun x1 =>
 (qbL a0.2.1).bind fun x2 =>
 some (x1, x2, ())
def qdy : Entry := ⟨105, [.ty (.pair (.sl I) (.pair (.sl I) .unit))], [((.pair (.sl I) (.pair (.sl I) .unit)), 1)], fun x => qau x⟩
def qkL : TH := qca [] []
theorem qk3 : KT qdy qkL [qcB] 40 := fun x => by kernel_rfl
theorem qkX : OT qdy := entK (qh qgN qq) hJ qk3
def qg8 (a0 : ((List (List UInt8)) × (List ((List UInt8) × (List Int) × (List Int) × (List Int) × (List Int) × Unit)) × (List ((List Int) × (List Int) × Unit)) × Unit)) : Option ((List (List UInt8)) × (List ((List UInt8) × (List Int) × (List Int) × (List Int) × (List Int) × Unit)) × (List ((List Int) × (List Int) × Unit)) × Unit) :=
 (qe5 a0.1).bind fun x1 =>
 (qU (fun (s4 : (Int × (List (List UInt8)) × (List ((List UInt8) × (List Int) × (List Int) × (List Int) × (List Int) × Unit)) × (List ((List Int) × (List Int) × Unit)))) =>
   bif decide (s4.1 < (a0.2.1.length : Int)) then
    (idx a0.2.1 s4.1).bind fun x5 =>
    (idx a0.2.1 s4.1).bind fun x6 =>
    (qau (x6.2.1, x6.2.2.1, ())).bind fun x7 =>
    (idx a0.2.1 s4.1).bind fun x8 =>
    (qau (x8.2.2.2.1, x8.2.2.2.2.1, ())).bind fun x9 =>
    (app s4.2.2.1 ([(x5.1, x7.1, x7.2.1, x9.1, x9.2.1, ())])).bind fun x10 =>
    some (.inl (w64 (s4.1 + 1), s4.2.1, x10, s4.2.2.2))
   else
    some (.inr (s4.2.1, s4.2.2.1, s4.2.2.2))) (0, x1, [], [])).bind fun (p11 : ((List (List UInt8)) × (List ((List UInt8) × (List Int) × (List Int) × (List Int) × (List Int) × Unit)) × (List ((List Int) × (List Int) × Unit)))) =>
 (qU (fun (s13 : (Int × (List (List UInt8)) × (List ((List UInt8) × (List Int) × (List Int) × (List Int) × (List Int) × Unit)) × (List ((List Int) × (List Int) × Unit)))) =>
   bif decide (s13.1 < (a0.2.2.1.length : Int)) then
    (idx a0.2.2.1 s13.1).bind fun x14 =>
    (qau x14).bind fun x15 =>
    (app s13.2.2.2 ([x15])).bind fun x16 =>
    some (.inl (w64 (s13.1 + 1), s13.2.1, s13.2.2.1, x16))
   else
    some (.inr (s13.2.1, s13.2.2.1, s13.2.2.2))) (0, p11.1, p11.2.1, p11.2.2)).bind fun (p17 : ((List (List UInt8)) × (List ((List UInt8) × (List Int) × (List Int) × (List Int) × (List Int) × Unit)) × (List ((List Int) × (List Int) × Unit)))) =>
 some (p17.1, p17.2.1, p17.2.2, ())
def qgE : Entry := ⟨47, [.ty (.pair (.sl .str) (.pair (.sl (.pair .str (.pair (.sl I) (.pair (.sl I) (.pair (.sl I) (.pair (.sl I) .unit)))))) (.pair (.sl (.pair (.sl I) (.pair (.sl I) .unit))) .unit)))], [((.pair (.sl .str) (.pair (.sl (.pair .str (.pair (.sl I) (.pair (.sl I) (.pair (.sl I) (.pair (.sl I) .unit)))))) (.pair (.sl (.pair (.sl I) (.pair (.sl I) .unit))) .unit))), 0)], fun x => qg8 x⟩
def qqG : TH := qca [([], 47, .block 0, { lv := [⟨some 0, 3, 0⟩, ⟨some 0, 3, 1⟩, ⟨some 0, 3, 2⟩], ps := [((.sl .str), 1), ((.sl (.pair .str (.pair (.sl I) (.pair (.sl I) (.pair (.sl I) (.pair (.sl I) .unit)))))), 2), ((.sl (.pair (.sl I) (.pair (.sl I) .unit))), 1)], D := ⟨8796093021200⟩, wr := [⟨0, 3⟩], rs := [⟨0, 1⟩], Dn := ⟨8796093019152⟩ }),
 ([], 47, .loop 0, { lv := [⟨none, 4, 0⟩, ⟨some 0, 3, 0⟩, ⟨some 0, 3, 1⟩, ⟨some 0, 3, 2⟩], ps := [(I, 0), ((.sl .str), 1), ((.sl (.pair .str (.pair (.sl I) (.pair (.sl I) (.pair (.sl I) (.pair (.sl I) .unit)))))), 2), ((.sl (.pair (.sl I) (.pair (.sl I) .unit))), 1)], D := ⟨8796093021200⟩, wr := [⟨0, 3⟩], rs := [⟨0, 1⟩, ⟨0, 3⟩], Dn := ⟨4393717330960⟩ }),
 ([], 47, .block 2, { lv := [⟨some 0, 3, 0⟩, ⟨some 0, 3, 1⟩, ⟨some 0, 3, 2⟩], ps := [((.sl .str), 1), ((.sl (.pair .str (.pair (.sl I) (.pair (.sl I) (.pair (.sl I) (.pair (.sl I) .unit)))))), 2), ((.sl (.pair (.sl I) (.pair (.sl I) .unit))), 2001)], D := ⟨2305834213120671776⟩, wr := [⟨0, 3⟩], rs := [⟨0, 1⟩], Dn := ⟨2305816620934627360⟩ }),
 ([], 47, .loop 2, { lv := [⟨none, 5, 0⟩, ⟨some 0, 3, 0⟩, ⟨some 0, 3, 1⟩, ⟨some 0, 3, 2⟩], ps := [(I, 0), ((.sl .str), 1), ((.sl (.pair .str (.pair (.sl I) (.pair (.sl I) (.pair (.sl I) (.pair (.sl I) .unit)))))), 2), ((.sl (.pair (.sl I) (.pair (.sl I) .unit))), 2001)], D := ⟨2305834213120671776⟩, wr := [⟨0, 3⟩], rs := [⟨0, 1⟩, ⟨0, 3⟩], Dn := ⟨1147265616793567264⟩ })] []
theorem qqP : KT qgE qqG [qdA, qdy] 40 := fun x => by kernel_rfl
theorem qqv : OT qgE := entK (qh qkN (qh qkX qq)) hJ qqP
def qbz (a0 : (List Int)) (a1 : Int) : Option Int :=
 (qU (fun (s2 : Int) =>
   bif decide (s2 < (a0.length : Int)) then
    (idx a0 s2).bind fun x3 =>
    bif decide (a1 = x3) then
     some (.inr (.inr s2))
    else
     some (.inl (w64 (s2 + 1)))
   else
    some (.inr (.inl ()))) 0).bind (Sum.elim (fun (p4 : Unit) =>
 some (-1)) some)
def qa9 : Entry := ⟨156, [.ty (.sl I), .ty I], [(I, 0)], fun x => qbz x.1 x.2⟩
def qfy : TH := qca [([], 156, .block 0, { lv := [], ps := [], abn := true, D := ⟨524064⟩ }),
 ([], 156, .loop 0, { lv := [⟨none, 8, 0⟩], ps := [(I, 0)], D := ⟨524064⟩ })] []
theorem qfK : KT qa9 qfy [] 40 := fun x => by kernel_rfl
theorem qfZ : OT qa9 := entK qq hJ qfK
def qad (a0 : (List Int)) (a1 : Int) : Option Bool :=
 (qbz a0 a1).bind fun x1 =>
 some (decide (x1 >= 0))
def qaK : Entry := ⟨143, [.ty (.sl I), .ty I], [(.bool, 0)], fun x => qad x.1 x.2⟩
def qeE : TH := qca [] []
theorem qeC : KT qaK qeE [qa9] 40 := fun x => by kernel_rfl
theorem qeB : OT qaK := entK (qh qfZ qq) hJ qeC
def qaX (a0 : (List Int)) (a1 : Int) : Option Int :=
 ((qU (fun (s2 : (Int × Int)) =>
    bif decide (s2.1 < (a0.length : Int)) then
     (idx a0 s2.1).bind fun x3 =>
     (qn x3 (0 : Int) (w64 (a1 - 1))).bind fun x4 =>
     (qm x4 (6 : Int)).bind fun x5 =>
     (qm (decide (x3 > s2.2)) (9 : Int)).bind fun x6 =>
     (qx ([x5, x6])).bind fun x7 =>
     bif !(decide (x7 = 0)) then
      some (.inr (.inr (s2.1, x7, x3)))
     else
      some (.inl (w64 (s2.1 + 1), x3))
    else
     some (.inr (.inl s2.2))) (0, (-1))).bind (Sum.elim (fun (p8 : Int) =>
  some (0, 0, p8)) some)).bind fun (p9 : (Int × Int × Int)) =>
 some p9.2.1
def qco : Entry := ⟨144, [.ty (.sl I), .ty I], [(I, 0)], fun x => qaX x.1 x.2⟩
def qiq : TH := qca [([11], 118, .inl 0, { lv := [⟨none, 4, 0⟩, ⟨none, 5, 0⟩, ⟨some 0, 5, 0⟩], ps := [(I, 0), (I, 0), (I, 0)], D := ⟨33554416⟩, wr := [⟨0, 5⟩], rs := [⟨0, 3⟩, ⟨0, 5⟩], Dn := ⟨33488880⟩ }),
 ([11], 118, .block 0, { lv := [⟨some 0, 5, 0⟩], ps := [(I, 0)], abn := true, D := ⟨33552832⟩, wr := [⟨0, 5⟩] }),
 ([11], 118, .loop 0, { lv := [⟨none, 11, 0⟩, ⟨some 0, 5, 0⟩], ps := [(I, 0), (I, 0)], D := ⟨33552832⟩, wr := [⟨0, 5⟩], rs := [⟨0, 3⟩, ⟨0, 5⟩], Dn := ⟨33487296⟩ })] []
theorem qhZ : KT qco qiq [qD, qt, qp] 40 := fun x => by kernel_rfl
theorem qhX : OT qco := entK (qh qah (qh qV (qh qS qq))) hJ qhZ
def qat (a0 : ((List Int) × (List Int) × Unit)) (a1 : Int) : Option Int :=
 ((qU (fun (s2 : Int) =>
    bif decide (s2 < (a0.1.length : Int)) then
     (idx a0.1 s2).bind fun x3 =>
     (qad a0.2.1 x3).bind fun x4 =>
     bif x4 then
      some (.inr (.inr s2))
     else
      some (.inl (w64 (s2 + 1)))
    else
     some (.inr (.inl ()))) 0).bind (Sum.elim (fun (p5 : Unit) =>
  some (-1)) some)).bind fun (p6 : Int) =>
 (qaX a0.1 a1).bind fun x7 =>
 (qaX a0.2.1 a1).bind fun x8 =>
 (qm (!(decide (p6 >= 0))) (13 : Int)).bind fun x9 =>
 (qx ([x7, x8, x9])).bind fun x10 =>
 some x10
def qdw : Entry := ⟨102, [.ty (.pair (.sl I) (.pair (.sl I) .unit)), .ty I], [(I, 0)], fun x => qat x.1 x.2⟩
def qkJ : TH := qca [([7, 9], 154, .inl 0, { lv := [⟨none, 4, 0⟩], ps := [(I, 0)], D := ⟨524272⟩, rs := [⟨0, 2⟩], Dn := ⟨522224⟩ }),
 ([7, 9], 154, .block 0, { lv := [], ps := [], abn := true, D := ⟨524064⟩ }),
 ([7, 9], 154, .loop 0, { lv := [⟨none, 8, 0⟩], ps := [(I, 0)], D := ⟨524064⟩, rs := [⟨0, 2⟩], Dn := ⟨522016⟩ })] []
theorem qkV : KT qdw qkJ [qD, qco, qt, qaK] 40 := fun x => by kernel_rfl
theorem qkW : OT qdw := entK (qh qah (qh qhX (qh qV (qh qeB qq)))) hJ qkV
def qa7 (a0 : ((List (List UInt8)) × (List ((List UInt8) × (List Int) × (List Int) × (List Int) × (List Int) × Unit)) × (List ((List Int) × (List Int) × Unit)) × Unit)) : Option (Int × Int) :=
 (bif decide ((a0.1.length : Int) <= 8) then
   bif decide ((a0.2.1.length : Int) <= 10) then
    some (decide ((a0.2.2.1.length : Int) <= 4))
   else
    some false
  else
   some false).bind fun (p1 : Bool) =>
 (qm (decide ((a0.1.length : Int) > 0)) (10 : Int)).bind fun x2 =>
 (qm p1 (8 : Int)).bind fun x3 =>
 (qx ([x2, x3])).bind fun x4 =>
 bif !(decide (x4 = 0)) then
  some (0, x4)
 else
  ((qU (fun (s6 : (Int × (List (List UInt8)))) =>
     bif decide (s6.1 < (a0.1.length : Int)) then
      (idx a0.1 s6.1).bind fun x7 =>
      (qbh x7).bind fun x8 =>
      (qm x8 (4 : Int)).bind fun x9 =>
      (qm (!(qgj .str s6.2 x7)) (5 : Int)).bind fun x10 =>
      (qx ([x9, x10])).bind fun x11 =>
      bif !(decide (x11 = 0)) then
       some (.inr (.inr (s6.1, x11, qkq .str s6.2 x7)))
      else
       some (.inl (w64 (s6.1 + 1), qkq .str s6.2 x7))
     else
      some (.inr (.inl s6.2))) (0, [])).bind (Sum.elim (fun (p12 : (List (List UInt8))) =>
   some (0, 0, p12)) some)).bind fun (p13 : (Int × Int × (List (List UInt8)))) =>
  bif !(decide (p13.2.1 = 0)) then
   some (p13.1, p13.2.1)
  else
   ((qU (fun (s15 : (Int × (List (List UInt8)))) =>
      bif decide (s15.1 < (a0.2.1.length : Int)) then
       (idx a0.2.1 s15.1).bind fun x16 =>
       (qbh x16.1).bind fun x17 =>
       (qm x17 (4 : Int)).bind fun x18 =>
       (qm (!(qgj .str s15.2 x16.1)) (5 : Int)).bind fun x19 =>
       (qx ([x18, x19])).bind fun x20 =>
       (qat (x16.2.1, x16.2.2.1, ()) (a0.1.length : Int)).bind fun x21 =>
       (qat (x16.2.2.2.1, x16.2.2.2.2.1, ()) (a0.1.length : Int)).bind fun x22 =>
       (qx ([x20, x21, x22])).bind fun x23 =>
       bif !(decide (x23 = 0)) then
        some (.inr (.inr (s15.1, x23, qkq .str s15.2 x16.1)))
       else
        some (.inl (w64 (s15.1 + 1), qkq .str s15.2 x16.1))
      else
       some (.inr (.inl s15.2))) (0, [])).bind (Sum.elim (fun (p24 : (List (List UInt8))) =>
    some (0, 0, p24)) some)).bind fun (p25 : (Int × Int × (List (List UInt8)))) =>
   bif !(decide (p25.2.1 = 0)) then
    some (p25.1, p25.2.1)
   else
    ((qU (fun (s27 : Int) =>
       bif decide (s27 < (a0.2.2.1.length : Int)) then
        (idx a0.2.2.1 s27).bind fun x28 =>
        (qat x28 (a0.1.length : Int)).bind fun x29 =>
        bif !(decide (x29 = 0)) then
         some (.inr (.inr (s27, x29)))
        else
         some (.inl (w64 (s27 + 1)))
       else
        some (.inr (.inl ()))) 0).bind (Sum.elim (fun (p30 : Unit) =>
     some (0, 0)) some)).bind fun (p31 : (Int × Int)) =>
    some (p31.1, p31.2)
def qby : Entry := ⟨46, [.ty (.pair (.sl .str) (.pair (.sl (.pair .str (.pair (.sl I) (.pair (.sl I) (.pair (.sl I) (.pair (.sl I) .unit)))))) (.pair (.sl (.pair (.sl I) (.pair (.sl I) .unit))) .unit)))], [(I, 0), (I, 0)], fun x => qa7 x⟩
def qgV : TH := qca [([], 46, .region 2, { lv := [⟨none, 5, 0⟩], ps := [(.bool, 0)], D := ⟨536838176⟩, rs := [⟨0, 1⟩], Dn := ⟨519798816⟩ }),
 ([44], 98, .inl 0, { lv := [⟨none, 4, 0⟩, ⟨none, 5, 0⟩, ⟨some 0, 16423, 0⟩], ps := [(I, 0), (I, 0), ((.mset .str), 0)], D := ⟨33554416⟩, wr := [⟨0, 16423⟩], rs := [⟨0, 7⟩], Dn := ⟨33488880⟩ }),
 ([44], 98, .block 0, { lv := [⟨some 0, 16423, 0⟩], ps := [((.mset .str), 0)], abn := true, D := ⟨33552832⟩, wr := [⟨0, 16423⟩] }),
 ([44], 98, .loop 0, { lv := [⟨none, 11, 0⟩, ⟨some 0, 16423, 0⟩], ps := [(I, 0), ((.mset .str), 0)], D := ⟨33552832⟩, wr := [⟨0, 16423⟩], rs := [⟨0, 7⟩], Dn := ⟨33487296⟩ }),
 ([56], 100, .inl 0, { lv := [⟨none, 4, 0⟩, ⟨none, 5, 0⟩, ⟨some 0, 16435, 0⟩], ps := [(I, 0), (I, 0), ((.mset .str), 0)], D := ⟨33554416⟩, wr := [⟨0, 16435⟩, ⟨1, 7⟩], rs := [⟨0, 4⟩, ⟨0, 7⟩, ⟨1, 7⟩], Dn := ⟨33488752⟩ }),
 ([56], 100, .block 0, { lv := [⟨some 0, 16435, 0⟩], ps := [((.mset .str), 0)], abn := true, D := ⟨33552832⟩, wr := [⟨0, 16435⟩, ⟨1, 7⟩] }),
 ([56], 100, .loop 0, { lv := [⟨none, 11, 0⟩, ⟨some 0, 16435, 0⟩], ps := [(I, 0), ((.mset .str), 0)], D := ⟨33552832⟩, wr := [⟨0, 16435⟩, ⟨1, 7⟩], rs := [⟨0, 4⟩, ⟨0, 7⟩, ⟨1, 7⟩], Dn := ⟨33487168⟩ }),
 ([66], 103, .inl 0, { lv := [⟨none, 4, 0⟩, ⟨none, 5, 0⟩], ps := [(I, 0), (I, 0)], D := ⟨33554416⟩, wr := [⟨1, 7⟩], rs := [⟨0, 4⟩, ⟨1, 7⟩], Dn := ⟨33488752⟩ }),
 ([66], 103, .block 0, { lv := [], ps := [], abn := true, D := ⟨33552832⟩, wr := [⟨1, 7⟩] }),
 ([66], 103, .loop 0, { lv := [⟨none, 11, 0⟩], ps := [(I, 0)], D := ⟨33552832⟩, wr := [⟨1, 7⟩], rs := [⟨0, 4⟩, ⟨1, 7⟩], Dn := ⟨33487168⟩ })] []
theorem qgM : KT qby qgV [qD, qeg, qdw, qt] 40 := fun x => by kernel_rfl
theorem qgm : OT qby := entK (qh qah (qh qlC (qh qkW (qh qV qq)))) hJ qgM
def qgp (a0 : (List Int)) : Option Int :=
 (qU (fun (s2 : (Int × Int)) =>
   bif decide (s2.2 < (a0.length : Int)) then
    (idx a0 s2.2).bind fun x3 =>
    (qtv .i64 (1 : Int) x3).bind fun x4 =>
    some (.inl (orI .i64 s2.1 x4, w64 (s2.2 + 1)))
   else
    some (.inr s2.1)) (0, 0)).bind fun (p5 : Int) =>
 some p5
def qh5 : Entry := ⟨171, [.ty (.sl I)], [(I, 0)], fun x => qgp x⟩
def qrT : TH := qca [([], 171, .block 0, { lv := [⟨none, 3, 0⟩], ps := [(I, 0)], D := ⟨130856⟩ }),
 ([], 171, .loop 0, { lv := [⟨none, 3, 0⟩, ⟨none, 8, 0⟩], ps := [(I, 0), (I, 0)], D := ⟨130856⟩ })] []
theorem qrW : KT qh5 qrT [] 40 := fun x => by kernel_rfl
theorem qrV : OT qh5 := entK qq hJ qrW
def qaw (a0 : ((List Int) × (List Int) × Unit)) : Option (Int × Int × Unit) :=
 (qgp a0.1).bind fun x1 =>
 (qgp a0.2.1).bind fun x2 =>
 some (x1, x2, ())
def qdz : Entry := ⟨158, [.ty (.pair (.sl I) (.pair (.sl I) .unit))], [(gT, 0)], fun x => qaw x⟩
def qk1 : TH := qca [] []
theorem qkE : KT qdz qk1 [qh5] 40 := fun x => by kernel_rfl
theorem qkH : OT qdz := entK (qh qrV qq) hJ qkE
def qfC (a0 : ((List (List UInt8)) × (List ((List UInt8) × (List Int) × (List Int) × (List Int) × (List Int) × Unit)) × (List ((List Int) × (List Int) × Unit)) × Unit)) : Option (((List (Int × Int × Unit)) × (List (Int × Int × Unit)) × (List (Int × Int × Unit)) × Int × Unit) × Int) :=
 (qa7 a0).bind fun x1 =>
 bif !(decide (x1.2 = 0)) then
  some (([], [], [], 0, ()), x1.2)
 else
  (qtv .i64 (1 : Int) (a0.1.length : Int)).bind fun x2 =>
  (qU (fun (s5 : (Int × (List (Int × Int × Unit)) × (List (Int × Int × Unit)) × (List (Int × Int × Unit)) × Int)) =>
    bif decide (s5.1 < (a0.2.1.length : Int)) then
     (idx a0.2.1 s5.1).bind fun x6 =>
     (qaw (x6.2.1, x6.2.2.1, ())).bind fun x7 =>
     (app s5.2.1 ([x7])).bind fun x8 =>
     (qaw (x6.2.2.2.1, x6.2.2.2.2.1, ())).bind fun x9 =>
     (app s5.2.2.1 ([x9])).bind fun x10 =>
     some (.inl (w64 (s5.1 + 1), x8, x10, s5.2.2.2.1, s5.2.2.2.2))
    else
     some (.inr (s5.2.1, s5.2.2.1, s5.2.2.2.1, s5.2.2.2.2))) (0, [], [], [], x2)).bind fun (p11 : ((List (Int × Int × Unit)) × (List (Int × Int × Unit)) × (List (Int × Int × Unit)) × Int)) =>
  (qU (fun (s14 : (Int × (List (Int × Int × Unit)) × (List (Int × Int × Unit)) × (List (Int × Int × Unit)) × Int)) =>
    bif decide (s14.1 < (a0.2.2.1.length : Int)) then
     (idx a0.2.2.1 s14.1).bind fun x15 =>
     (qaw x15).bind fun x16 =>
     (app s14.2.2.2.1 ([x16])).bind fun x17 =>
     some (.inl (w64 (s14.1 + 1), s14.2.1, s14.2.2.1, x17, s14.2.2.2.2))
    else
     some (.inr (s14.2.1, s14.2.2.1, s14.2.2.2.1, s14.2.2.2.2))) (0, p11.1, p11.2.1, p11.2.2.1, p11.2.2.2)).bind fun (p18 : ((List (Int × Int × Unit)) × (List (Int × Int × Unit)) × (List (Int × Int × Unit)) × Int)) =>
  some ((p18.1, p18.2.1, p18.2.2.1, p18.2.2.2, ()), 0)
def qfM : Entry := ⟨145, [.ty (.pair (.sl .str) (.pair (.sl (.pair .str (.pair (.sl I) (.pair (.sl I) (.pair (.sl I) (.pair (.sl I) .unit)))))) (.pair (.sl (.pair (.sl I) (.pair (.sl I) .unit))) .unit)))], [((.pair (.sl gT) (.pair (.sl gT) (.pair (.sl gT) (.pair I .unit)))), 2000), (I, 0)], fun x => qfC x⟩
def qoG : TH := qca [([], 145, .block 0, { lv := [⟨some 0, 6, 0⟩, ⟨some 0, 6, 1⟩, ⟨some 0, 6, 2⟩, ⟨some 0, 6, 3⟩], ps := [((.sl gT), 1), ((.sl gT), 1), ((.sl gT), 1), (I, 0)], D := ⟨562949684987136⟩, wr := [⟨0, 6⟩, ⟨0, 8⟩] }),
 ([], 145, .loop 0, { lv := [⟨none, 28, 0⟩, ⟨some 0, 6, 0⟩, ⟨some 0, 6, 1⟩, ⟨some 0, 6, 2⟩, ⟨some 0, 6, 3⟩], ps := [(I, 0), ((.sl gT), 1), ((.sl gT), 1), ((.sl gT), 1), (I, 0)], D := ⟨562949684987136⟩, wr := [⟨0, 6⟩, ⟨0, 8⟩], rs := [⟨0, 6⟩, ⟨0, 8⟩], Dn := ⟨349073198547968⟩ }),
 ([], 145, .block 2, { lv := [⟨some 0, 6, 0⟩, ⟨some 0, 6, 1⟩, ⟨some 0, 6, 2⟩, ⟨some 0, 6, 3⟩], ps := [((.sl gT), 1), ((.sl gT), 1), ((.sl gT), 1), (I, 0)], D := ⟨18442240474082182400⟩, wr := [⟨0, 6⟩, ⟨0, 8⟩, ⟨0, 10⟩] }),
 ([], 145, .loop 2, { lv := [⟨none, 52, 0⟩, ⟨some 0, 6, 0⟩, ⟨some 0, 6, 1⟩, ⟨some 0, 6, 2⟩, ⟨some 0, 6, 3⟩], ps := [(I, 0), ((.sl gT), 1), ((.sl gT), 1), ((.sl gT), 1), (I, 0)], D := ⟨18442240474082182400⟩, wr := [⟨0, 6⟩, ⟨0, 8⟩, ⟨0, 10⟩], rs := [⟨0, 6⟩, ⟨0, 10⟩], Dn := ⟨13758496861616865536⟩ })] []
theorem qps : KT qfM qoG [qby, qdz] 40 := fun x => by kernel_rfl
theorem qoU : OT qfM := entK (qh qgm (qh qkH qq)) hJ qps
def qcg (a0 : ((List (List UInt8)) × (List ((List UInt8) × (List Int) × (List Int) × (List Int) × (List Int) × Unit)) × (List ((List Int) × (List Int) × Unit)) × Unit)) (a1 : Int) : Option (((List (Int × Int × Unit)) × (List (Int × Int × Unit)) × (List (Int × Int × Unit)) × Int × Unit) × Int × Int) :=
 (qfC a0).bind fun x1 =>
 (qn a1 (0 : Int) (w64 (x1.1.2.2.2.1 - 1))).bind fun x2 =>
 (qm x2 (2 : Int)).bind fun x3 =>
 (qx ([x1.2, x3])).bind fun x4 =>
 some (x1.1, a1, x4)
def qcu : Entry := ⟨106, [.ty (.pair (.sl .str) (.pair (.sl (.pair .str (.pair (.sl I) (.pair (.sl I) (.pair (.sl I) (.pair (.sl I) .unit)))))) (.pair (.sl (.pair (.sl I) (.pair (.sl I) .unit))) .unit))), .ty I], [((.pair (.sl gT) (.pair (.sl gT) (.pair (.sl gT) (.pair I .unit)))), 0), (I, 0), (I, 0)], fun x => qcg x.1 x.2⟩
def qi8 : TH := qca [] []
theorem qjr : KT qcu qi8 [qD, qfM, qt, qp] 40 := fun x => by kernel_rfl
theorem qi5 : OT qcu := entK (qh qah (qh qoU (qh qV (qh qS qq)))) hJ qjr
def qar (a0 : (Int × Int × Unit)) (a1 : Int) : Option Bool :=
 (bif decide (qra .i64 a1 a0.1 = a0.1) then
   some (decide (qra .i64 a1 a0.2.1 = 0))
  else
   some false).bind fun (p1 : Bool) =>
 some p1
def qbg : Entry := ⟨108, [.ty gT, .ty I], [(.bool, 0)], fun x => qar x.1 x.2⟩
def qh6 : TH := qca [([], 108, .region 1, { lv := [⟨none, 4, 0⟩], ps := [(.bool, 0)], D := ⟨524272⟩, rs := [⟨0, 2⟩], Dn := ⟨507312⟩ })] []
theorem qil : KT qbg qh6 [] 40 := fun x => by kernel_rfl
theorem qet : OT qbg := entK qq hJ qil
def qbj (a0 : (Int × Int × Unit)) (a1 : Int) : Option Int :=
 some (qim .i64 (orI .i64 a1 a0.1) a0.2.1)
def qcG : Entry := ⟨109, [.ty gT, .ty I], [(I, 0)], fun x => qbj x.1 x.2⟩
def qiF : TH := qca [] []
theorem qjf : KT qcG qiF [] 40 := fun x => by kernel_rfl
theorem qiM : OT qcG := entK qq hJ qjf
def qbk (a0 : (List Int)) (a1 : Int) : Option Int :=
 (qU (fun (s2 : Int) =>
   bif decide (s2 < (a0.length : Int)) then
    (idx a0 s2).bind fun x3 =>
    (qeq x3 (0 : Int) (w64 (a1 - 1))).bind fun x4 =>
    bif !x4 then
     some (.inr (.inr 6))
    else
     (bif decide (s2 > 0) then
       (idx a0 s2).bind fun x5 =>
       (idx a0 (w64 (s2 - 1))).bind fun x6 =>
       some (decide (x5 <= x6))
      else
       some false).bind fun (p7 : Bool) =>
     bif p7 then
      some (.inr (.inr 9))
     else
      some (.inl (w64 (s2 + 1)))
   else
    some (.inr (.inl ()))) 0).bind (Sum.elim (fun (p8 : Unit) =>
 some 0) some)
def qcD : Entry := ⟨147, [.ty (.sl I), .ty I], [(I, 0)], fun x => qbk x.1 x.2⟩
def qji : TH := qca [([], 147, .block 0, { lv := [], ps := [], abn := true, D := ⟨17179869152⟩ }),
 ([], 147, .loop 0, { lv := [⟨none, 5, 0⟩], ps := [(I, 0)], D := ⟨17179869152⟩ }),
 ([], 147, .region 6, { lv := [⟨none, 33, 0⟩], ps := [(.bool, 0)], D := ⟨17178820608⟩ })] []
theorem qiJ : KT qcD qji [qdQ] 40 := fun x => by kernel_rfl
theorem qjn : OT qcD := entK (qh qjc qq) hJ qiJ
def qbI (a0 : ((List Int) × (List Int) × Unit)) (a1 : Int) : Option Int :=
 (qbk a0.1 a1).bind fun x1 =>
 bif !(decide (x1 = 0)) then
  some x1
 else
  (qbk a0.2.1 a1).bind fun x2 =>
  bif !(decide (x2 = 0)) then
   some x2
  else
   (qU (fun (s4 : Int) =>
     bif decide (s4 < (a0.1.length : Int)) then
      (idx a0.1 s4).bind fun x5 =>
      (qg5 a0.2.1 x5).bind fun x6 =>
      bif x6 then
       some (.inr (.inr 13))
      else
       some (.inl (w64 (s4 + 1)))
     else
      some (.inr (.inl ()))) 0).bind (Sum.elim (fun (p7 : Unit) =>
   some 0) some)
def qd9 : Entry := ⟨110, [.ty (.pair (.sl I) (.pair (.sl I) .unit)), .ty I], [(I, 0)], fun x => qbI x.1 x.2⟩
def qlV : TH := qca [([], 110, .block 0, { lv := [], ps := [], abn := true, D := ⟨137434759296⟩, rs := [⟨0, 2⟩], Dn := ⟨137426370688⟩ }),
 ([], 110, .loop 0, { lv := [⟨none, 7, 0⟩], ps := [(I, 0)], D := ⟨137434759296⟩, rs := [⟨0, 2⟩], Dn := ⟨134742016128⟩ })] []
theorem qlB : KT qd9 qlV [qg4, qcD] 40 := fun x => by kernel_rfl
theorem qmC : OT qd9 := entK (qh qnZ (qh qjn qq)) hJ qlB
def qbo (a0 : ((List (List UInt8)) × (List ((List UInt8) × (List Int) × (List Int) × (List Int) × (List Int) × Unit)) × (List ((List Int) × (List Int) × Unit)) × Unit)) : Option (Int × Int) :=
 bif decide ((a0.1.length : Int) = 0) then
  some (0, 10)
 else
  (bif decide ((a0.1.length : Int) > 8) then
    some true
   else
    bif decide ((a0.2.1.length : Int) > 10) then
     some true
    else
     some (decide ((a0.2.2.1.length : Int) > 4))).bind fun (p1 : Bool) =>
  bif p1 then
   some (0, 8)
  else
   (qU (fun (s3 : Int) =>
     bif decide (s3 < (a0.1.length : Int)) then
      (idx a0.1 s3).bind fun x4 =>
      (qer x4).bind fun x5 =>
      bif !x5 then
       some (.inr (.inr (s3, 4)))
      else
       (slc a0.1 0 s3).bind fun x6 =>
       (idx a0.1 s3).bind fun x7 =>
       (qeK x6 x7).bind fun x8 =>
       bif x8 then
        some (.inr (.inr (s3, 5)))
       else
        some (.inl (w64 (s3 + 1)))
     else
      some (.inr (.inl ()))) 0).bind (Sum.elim (fun (p9 : Unit) =>
   (qU (fun (s11 : Int) =>
     bif decide (s11 < (a0.2.1.length : Int)) then
      (idx a0.2.1 s11).bind fun x12 =>
      (qer x12.1).bind fun x13 =>
      bif !x13 then
       some (.inr (.inr (s11, 4)))
      else
       (qU (fun (s15 : Int) =>
         bif decide (s15 < s11) then
          (idx a0.2.1 s15).bind fun x16 =>
          bif decide (x16.1 = x12.1) then
           some (.inr (.inr (.inr (.inr (s11, 5)))))
          else
           some (.inl (w64 (s15 + 1)))
         else
          some (.inr (.inl ()))) 0).bind (Sum.elim (fun (p17 : Unit) =>
       (qbI (x12.2.1, x12.2.2.1, ()) (a0.1.length : Int)).bind fun x18 =>
       bif !(decide (x18 = 0)) then
        some (.inr (.inr (s11, x18)))
       else
        (qbI (x12.2.2.2.1, x12.2.2.2.2.1, ()) (a0.1.length : Int)).bind fun x19 =>
        bif !(decide (x19 = 0)) then
         some (.inr (.inr (s11, x19)))
        else
         some (.inl (w64 (s11 + 1)))) some)
     else
      some (.inr (.inl ()))) 0).bind (Sum.elim (fun (p20 : Unit) =>
   (qU (fun (s22 : Int) =>
     bif decide (s22 < (a0.2.2.1.length : Int)) then
      (idx a0.2.2.1 s22).bind fun x23 =>
      (qbI x23 (a0.1.length : Int)).bind fun x24 =>
      bif !(decide (x24 = 0)) then
       some (.inr (.inr (s22, x24)))
      else
       some (.inl (w64 (s22 + 1)))
     else
      some (.inr (.inl ()))) 0).bind (Sum.elim (fun (p25 : Unit) =>
   some (0, 0)) some)) some)) some)
def qbT : Entry := ⟨51, [.ty (.pair (.sl .str) (.pair (.sl (.pair .str (.pair (.sl I) (.pair (.sl I) (.pair (.sl I) (.pair (.sl I) .unit)))))) (.pair (.sl (.pair (.sl I) (.pair (.sl I) .unit))) .unit)))], [(I, 0), (I, 0)], fun x => qbo x⟩
def qhG : TH := qca [([], 51, .region 3, { lv := [⟨none, 31, 0⟩], ps := [(.bool, 0)], D := ⟨4294901760⟩, rs := [⟨0, 1⟩], Dn := ⟨4158521344⟩ }),
 ([], 51, .block 0, { lv := [], ps := [], abn := true, D := ⟨288230371856744464⟩, rs := [⟨0, 1⟩], Dn := ⟨288230363266809872⟩ }),
 ([], 51, .loop 0, { lv := [⟨none, 4, 0⟩], ps := [(I, 0)], D := ⟨288230371856744464⟩, rs := [⟨0, 1⟩], Dn := ⟨285837276208955408⟩ }),
 ([], 51, .block 2, { lv := [], ps := [], abn := true, D := ⟨1298074214633706618902247930594272⟩, wr := [⟨0, 6⟩], rs := [⟨0, 1⟩], Dn := ⟨1298074214633706042441495627170784⟩ }),
 ([], 51, .loop 2, { lv := [⟨none, 5, 0⟩], ps := [(I, 0)], D := ⟨1298074214633706618902247930594272⟩, wr := [⟨0, 6⟩], rs := [⟨0, 1⟩, ⟨0, 6⟩], Dn := ⟨1291729771931150983423772785116064⟩ }),
 ([], 51, .block 4, { lv := [], ps := [], abn := true, D := ⟨1237902260353517317737414784⟩ }),
 ([], 51, .loop 4, { lv := [⟨none, 7, 0⟩], ps := [(I, 0)], D := ⟨1237902260353517317737414784⟩, rs := [⟨0, 1⟩, ⟨0, 6⟩], Dn := ⟨1159322082078566421381513344⟩ }),
 ([], 51, .block 6, { lv := [], ps := [], abn := true, D := ⟨1361128169609539220146591297102990543872⟩, rs := [⟨0, 1⟩], Dn := ⟨1361125573461109952732777031854825933824⟩ }),
 ([], 51, .loop 6, { lv := [⟨none, 10, 0⟩], ps := [(I, 0)], D := ⟨1361128169609539220146591297102990543872⟩, rs := [⟨0, 1⟩], Dn := ⟨1355642507978497174757048827731169512448⟩ })] []
theorem qhv : KT qbT qhG [qe2, qfY, qd9] 40 := fun x => by kernel_rfl
theorem qhF : OT qbT := entK (qh qnj (qh qoL (qh qmC qq))) hJ qhv
def qcd (a0 : ((List (List UInt8)) × (List ((List UInt8) × (List Int) × (List Int) × (List Int) × (List Int) × Unit)) × (List ((List Int) × (List Int) × Unit)) × Unit)) : Option Int :=
 (qbo a0).bind fun x1 =>
 some x1.2
def qcI : Entry := ⟨111, [.ty (.pair (.sl .str) (.pair (.sl (.pair .str (.pair (.sl I) (.pair (.sl I) (.pair (.sl I) (.pair (.sl I) .unit)))))) (.pair (.sl (.pair (.sl I) (.pair (.sl I) .unit))) .unit)))], [(I, 0)], fun x => qcd x⟩
def qiU : TH := qca [] []
theorem qjm : KT qcI qiU [qbT] 40 := fun x => by kernel_rfl
theorem qjk : OT qcI := entK (qh qhF qq) hJ qjm
def qbF (a0 : ((List (List UInt8)) × (List ((List UInt8) × (List Int) × (List Int) × (List Int) × (List Int) × Unit)) × (List ((List Int) × (List Int) × Unit)) × Unit)) (a1 : Int) : Option Bool :=
 (qtv .i64 (1 : Int) (a0.1.length : Int)).bind fun x1 =>
 (qeq a1 (0 : Int) (w64 (x1 - 1))).bind fun x2 =>
 some x2
def qcv : Entry := ⟨124, [.ty (.pair (.sl .str) (.pair (.sl (.pair .str (.pair (.sl I) (.pair (.sl I) (.pair (.sl I) (.pair (.sl I) .unit)))))) (.pair (.sl (.pair (.sl I) (.pair (.sl I) .unit))) .unit))), .ty I], [(.bool, 0)], fun x => qbF x.1 x.2⟩
def ql0 : TH := qca [] []
theorem qmc : KT qcv ql0 [qdQ] 40 := fun x => by kernel_rfl
theorem qgA : OT qcv := entK (qh qjc qq) hJ qmc
def qe4 (a0 : ((List (List UInt8)) × (List ((List UInt8) × (List Int) × (List Int) × (List Int) × (List Int) × Unit)) × (List ((List Int) × (List Int) × Unit)) × Unit)) (a1 : Int) : Option Int :=
 (qbF a0 a1).bind fun x1 =>
 bif !x1 then
  some 2
 else
  some 0
def qdB : Entry := ⟨112, [.ty (.pair (.sl .str) (.pair (.sl (.pair .str (.pair (.sl I) (.pair (.sl I) (.pair (.sl I) (.pair (.sl I) .unit)))))) (.pair (.sl (.pair (.sl I) (.pair (.sl I) .unit))) .unit))), .ty I], [(I, 0)], fun x => qe4 x.1 x.2⟩
def qkG : TH := qca [] []
theorem qkU : KT qdB qkG [qcv] 40 := fun x => by kernel_rfl
theorem qkY : OT qdB := entK (qh qgA qq) hJ qkU
def qdd (a0 : ((List (List UInt8)) × (List ((List UInt8) × (List Int) × (List Int) × (List Int) × (List Int) × Unit)) × (List ((List Int) × (List Int) × Unit)) × Unit)) (a1 : Int) : Option Int :=
 (qcd a0).bind fun x1 =>
 bif !(decide (x1 = 0)) then
  some x1
 else
  (qe4 a0 a1).bind fun x2 =>
  some x2
def qdv : Entry := ⟨52, [.ty (.pair (.sl .str) (.pair (.sl (.pair .str (.pair (.sl I) (.pair (.sl I) (.pair (.sl I) (.pair (.sl I) .unit)))))) (.pair (.sl (.pair (.sl I) (.pair (.sl I) .unit))) .unit))), .ty I], [(I, 0)], fun x => qdd x.1 x.2⟩
def qkZ : TH := qca [] []
theorem qkI : KT qdv qkZ [qcI, qdB] 40 := fun x => by kernel_rfl
theorem qkK : OT qdv := entK (qh qjk (qh qkY qq)) hJ qkI
def qef (a0 : ((List Int) × (List Int) × Unit)) (a1 : Int) : Option Bool :=
 (qU (fun (s2 : Int) =>
   bif decide (s2 < (a0.1.length : Int)) then
    (idx a0.1 s2).bind fun x3 =>
    (qq8 .i64 a1 x3).bind fun x4 =>
    bif decide (qra .i64 x4 (1 : Int) = 0) then
     some (.inr (.inr false))
    else
     some (.inl (w64 (s2 + 1)))
   else
    some (.inr (.inl ()))) 0).bind (Sum.elim (fun (p5 : Unit) =>
 (qU (fun (s7 : Int) =>
   bif decide (s7 < (a0.2.1.length : Int)) then
    (idx a0.2.1 s7).bind fun x8 =>
    (qq8 .i64 a1 x8).bind fun x9 =>
    bif decide (qra .i64 x9 (1 : Int) = 1) then
     some (.inr (.inr false))
    else
     some (.inl (w64 (s7 + 1)))
   else
    some (.inr (.inl ()))) 0).bind (Sum.elim (fun (p10 : Unit) =>
 some true) some)) some)
def qdO : Entry := ⟨113, [.ty (.pair (.sl I) (.pair (.sl I) .unit)), .ty I], [(.bool, 0)], fun x => qef x.1 x.2⟩
def qpn : TH := qca [([], 113, .block 0, { lv := [], ps := [], abn := true, D := ⟨8388512⟩, rs := [⟨0, 2⟩], Dn := ⟨8388256⟩ }),
 ([], 113, .loop 0, { lv := [⟨none, 5, 0⟩], ps := [(I, 0)], D := ⟨8388512⟩, rs := [⟨0, 2⟩], Dn := ⟨8355488⟩ }),
 ([], 113, .block 2, { lv := [], ps := [], abn := true, D := ⟨549747425344⟩, rs := [⟨0, 2⟩], Dn := ⟨549730648128⟩ }),
 ([], 113, .loop 2, { lv := [⟨none, 6, 0⟩], ps := [(I, 0)], D := ⟨549747425344⟩, rs := [⟨0, 2⟩], Dn := ⟨547583164480⟩ })] []
theorem qo0 : KT qdO qpn [] 40 := fun x => by kernel_rfl
theorem qiL : OT qdO := entK qq hJ qo0
def qhs (a0 : ((List (List UInt8)) × (List ((List UInt8) × (List Int) × (List Int) × (List Int) × (List Int) × Unit)) × (List ((List Int) × (List Int) × Unit)) × Unit)) (a1 : Int) (a2 : Int) : Option (Int × Bool) :=
 (idx a0.2.1 a2).bind fun x1 =>
 (qef (x1.2.1, x1.2.2.1, ()) a1).bind fun x2 =>
 bif !x2 then
  some (0, false)
 else
  (qU (fun (s4 : (Int × Int)) =>
    bif decide (s4.2 < (x1.2.2.2.1.length : Int)) then
     (idx x1.2.2.2.1 s4.2).bind fun x5 =>
     (qtv .i64 (1 : Int) x5).bind fun x6 =>
     some (.inl (orI .i64 s4.1 x6, w64 (s4.2 + 1)))
    else
     some (.inr s4.1)) (a1, 0)).bind fun (p7 : Int) =>
  (qU (fun (s9 : (Int × Int)) =>
    bif decide (s9.2 < (x1.2.2.2.2.1.length : Int)) then
     (idx x1.2.2.2.2.1 s9.2).bind fun x10 =>
     (qq8 .i64 s9.1 x10).bind fun x11 =>
     (bif decide (qra .i64 x11 (1 : Int) = 1) then
       (idx x1.2.2.2.2.1 s9.2).bind fun x12 =>
       (qtv .i64 (1 : Int) x12).bind fun x13 =>
       some (w64 (s9.1 - x13))
      else
       some s9.1).bind fun (p14 : Int) =>
     some (.inl (p14, w64 (s9.2 + 1)))
    else
     some (.inr s9.1)) (p7, 0)).bind fun (p15 : Int) =>
  some (p15, true)
def qgZ : Entry := ⟨54, [.ty (.pair (.sl .str) (.pair (.sl (.pair .str (.pair (.sl I) (.pair (.sl I) (.pair (.sl I) (.pair (.sl I) .unit)))))) (.pair (.sl (.pair (.sl I) (.pair (.sl I) .unit))) .unit))), .ty I, .ty I], [(I, 0), (.bool, 0)], fun x => qhs x.1 x.2.1 x.2.2⟩
def qqh : TH := qca [([], 54, .block 0, { lv := [⟨none, 1, 0⟩], ps := [(I, 0)], D := ⟨274875810306⟩, rs := [⟨0, 8⟩], Dn := ⟨274863227394⟩ }),
 ([], 54, .loop 0, { lv := [⟨none, 1, 0⟩, ⟨none, 9, 0⟩], ps := [(I, 0), (I, 0)], D := ⟨274875810306⟩, rs := [⟨0, 8⟩], Dn := ⟨271642001922⟩ }),
 ([], 54, .block 2, { lv := [⟨none, 1, 0⟩], ps := [(I, 0)], D := ⟨36893487872541197314⟩, rs := [⟨0, 8⟩], Dn := ⟨36893486223273755650⟩ }),
 ([], 54, .loop 2, { lv := [⟨none, 1, 0⟩, ⟨none, 10, 0⟩], ps := [(I, 0), (I, 0)], D := ⟨36893487872541197314⟩, rs := [⟨0, 8⟩], Dn := ⟨36460718446581122050⟩ }),
 ([], 54, .cond 55, { lv := [⟨none, 1, 0⟩], ps := [(I, 0)], D := ⟨36821430553381175298⟩, rs := [⟨0, 8⟩], Dn := ⟨36389084989153607682⟩ })] []
theorem qqx : KT qgZ qqh [qdO] 40 := fun x => by kernel_rfl
theorem qqY : OT qgZ := entK (qh qiL qq) hJ qqx
def cmp_isNaN_int (a0 : Int) : Option Bool :=
 some (!(decide (a0 = a0)))
def qes : Entry := ⟨159, [.ty I], [(.bool, 0)], fun x => cmp_isNaN_int x⟩
def qlR : TH := qca [] []
theorem qms : KT qes qlR [] 40 := fun x => by kernel_rfl
theorem qmW : OT qes := entK qq hJ qms
def cmp_Less_int (a0 : Int) (a1 : Int) : Option Bool :=
 ((cmp_isNaN_int a0).bind fun x1 =>
  bif x1 then
   (cmp_isNaN_int a1).bind fun x2 =>
   bif !x2 then
    some true
   else
    some (decide (a0 < a1))
  else
   some (decide (a0 < a1))).bind fun (p3 : Bool) =>
 some p3
def qeX : Entry := ⟨148, [.ty I, .ty I], [(.bool, 0)], fun x => cmp_Less_int x.1 x.2⟩
def qni : TH := qca [([], 148, .region 1, { lv := [⟨none, 4, 0⟩], ps := [(.bool, 0)], D := ⟨131056⟩ })] []
theorem qnc : KT qeX qni [qes] 40 := fun x => by kernel_rfl
theorem qnk : OT qeX := entK (qh qmW qq) hJ qnc
def qcc (a0 : Int) : Option Bool :=
 some (!(decide (a0 = a0)))
def qcK : Entry := ⟨149, [.ty I], [(.bool, 0)], fun x => qcc x⟩
def qix : TH := qca [] []
theorem qiP : KT qcK qix [] 40 := fun x => by kernel_rfl
theorem qiN : OT qcK := entK qq hJ qiP
def qO (a0 : (List Int)) (a1 : Int) : Option (Int × Bool) :=
 (qU (fun (s2 : (Int × Int)) =>
   bif decide (s2.1 < s2.2) then
    (qq8 .u64 (IntKind.wrap .u64 (w64 (s2.1 + s2.2))) (1 : Int)).bind fun x3 =>
    (idx a0 (w64 (x3))).bind fun x4 =>
    (cmp_Less_int x4 a1).bind fun x5 =>
    (bif x5 then
      some (w64 ((w64 (x3)) + 1), s2.2)
     else
      some (s2.1, w64 (x3))).bind fun (p6 : (Int × Int)) =>
    some (.inl (p6.1, p6.2))
   else
    some (.inr s2.1)) (0, (a0.length : Int))).bind fun (p7 : Int) =>
 (bif decide (p7 < (a0.length : Int)) then
   (idx a0 p7).bind fun x8 =>
   bif decide (x8 = a1) then
    some (p7, true)
   else
    (idx a0 p7).bind fun x9 =>
    (qcc x9).bind fun x10 =>
    bif x10 then
     (qcc a1).bind fun x11 =>
     some (p7, x11)
    else
     some (p7, false)
  else
   some (p7, false)).bind fun (p12 : (Int × Bool)) =>
 some (p12.1, p12.2)
def qaz : Entry := ⟨121, [.ty (.sl I), .ty I], [(I, 0), (.bool, 0)], fun x => qO x.1 x.2⟩
def qdm : TH := qca [([], 121, .block 0, { lv := [⟨none, 7, 0⟩], ps := [(I, 0)], D := ⟨2147476352⟩ }),
 ([], 121, .loop 0, { lv := [⟨none, 7, 0⟩, ⟨none, 8, 0⟩], ps := [(I, 0), (I, 0)], D := ⟨2147476352⟩ }),
 ([], 121, .cond 27, { lv := [⟨none, 7, 0⟩, ⟨none, 8, 0⟩], ps := [(I, 0), (I, 0)], D := ⟨1879048576⟩ }),
 ([], 121, .region 8, { lv := [⟨none, 4, 0⟩, ⟨none, 5, 0⟩], ps := [(I, 0), (.bool, 0)], D := ⟨18014396361998384⟩ })] []
theorem qdo : KT qaz qdm [qeX, qcK] 40 := fun x => by kernel_rfl
theorem qdn : OT qaz := entK (qh qnk (qh qiN qq)) hJ qdo
def qay (a0 : ((List (Int × Int × Unit)) × (List (Int × Int × Unit)) × (List (Int × Int × Unit)) × Int × Unit)) (a1 : Int) : Option Bool :=
 ((qU (fun (s2 : Int) =>
    bif decide (s2 < (a0.2.2.1.length : Int)) then
     (idx a0.2.2.1 s2).bind fun x3 =>
     (qar x3 a1).bind fun x4 =>
     bif x4 then
      some (.inr (.inr s2))
     else
      some (.inl (w64 (s2 + 1)))
    else
     some (.inr (.inl ()))) 0).bind (Sum.elim (fun (p5 : Unit) =>
  some (-1)) some)).bind fun (p6 : Int) =>
 some (decide (p6 >= 0))
def qa5 : Entry := ⟨123, [.ty (.pair (.sl gT) (.pair (.sl gT) (.pair (.sl gT) (.pair I .unit)))), .ty I], [(.bool, 0)], fun x => qay x.1 x.2⟩
def qfW : TH := qca [([7, 8], 160, .inl 0, { lv := [⟨none, 4, 0⟩], ps := [(I, 0)], D := ⟨524272⟩, rs := [⟨0, 3⟩], Dn := ⟨522224⟩ }),
 ([7, 8], 160, .block 0, { lv := [], ps := [], abn := true, D := ⟨524064⟩ }),
 ([7, 8], 160, .loop 0, { lv := [⟨none, 8, 0⟩], ps := [(I, 0)], D := ⟨524064⟩, rs := [⟨0, 3⟩], Dn := ⟨522016⟩ })] []
theorem qfL : KT qa5 qfW [qbg] 40 := fun x => by kernel_rfl
theorem qfE : OT qa5 := entK (qh qet qq) hJ qfL
def qbq (a0 : ((List (List UInt8)) × (List ((List UInt8) × (List Int) × (List Int) × (List Int) × (List Int) × Unit)) × (List ((List Int) × (List Int) × Unit)) × Unit)) (a1 : Int) (a2 : (List Int)) : Option (Int × Int) :=
 (qcg a0 a1).bind fun x1 =>
 bif !(decide (x1.2.2 = 0)) then
  some (0, x1.2.2)
 else
  ((qU (fun (s3 : (Int × Int)) =>
     bif decide (s3.1 < (a2.length : Int)) then
      (idx a2 s3.1).bind fun x4 =>
      (qn x4 (0 : Int) (w64 (x1.1.2.2.2.1 - 1))).bind fun x5 =>
      (qm x5 (2 : Int)).bind fun x6 =>
      (qm (decide (x4 > s3.2)) (9 : Int)).bind fun x7 =>
      (qx ([x6, x7])).bind fun x8 =>
      bif !(decide (x8 = 0)) then
       some (.inr (.inr (s3.1, x8, x4)))
      else
       some (.inl (w64 (s3.1 + 1), x4))
     else
      some (.inr (.inl s3.2))) (0, (-1))).bind (Sum.elim (fun (p9 : Int) =>
   some (0, 0, p9)) some)).bind fun (p10 : (Int × Int × Int)) =>
  bif !(decide (p10.2.1 = 0)) then
   some (p10.1, p10.2.1)
  else
   (qO a2 a1).bind fun x11 =>
   bif !x11.2 then
    some (0, 6)
   else
    ((qU (fun (s13 : Int) =>
       bif decide (s13 < (a2.length : Int)) then
        (idx a2 s13).bind fun x14 =>
        ((qay x1.1 x14).bind fun x15 =>
         bif x15 then
          some 22
         else
          (qU (fun (s17 : Int) =>
            bif decide (s17 < (x1.1.1.length : Int)) then
             ((idx x1.1.1 s17).bind fun x18 =>
              (qq8 .i64 (0 : Int) s17).bind fun x19 =>
              bif decide (qra .i64 x19 (1 : Int) = 0) then
               (qar x18 x14).bind fun x20 =>
               bif x20 then
                (idx x1.1.2.1 s17).bind fun x21 =>
                (qbj x21 x14).bind fun x22 =>
                (qO a2 x22).bind fun x23 =>
                bif !x23.2 then
                 some (.inr (.inr (.inr 21)))
                else
                 some (.inl ())
               else
                some (.inl ())
              else
               some (.inl ())).bind (Sum.elim (fun (p24 : Unit) =>
             some (.inl (w64 (s17 + 1)))) some)
            else
             some (.inr (.inl ()))) 0).bind (Sum.elim (fun (p25 : Unit) =>
          some 0) some)).bind fun (p26 : Int) =>
        bif !(decide (p26 = 0)) then
         some (.inr (.inr (s13, p26)))
        else
         some (.inl (w64 (s13 + 1)))
       else
        some (.inr (.inl ()))) 0).bind (Sum.elim (fun (p27 : Unit) =>
     some (0, 0)) some)).bind fun (p28 : (Int × Int)) =>
    some (p28.1, p28.2)
def qbZ : Entry := ⟨62, [.ty (.pair (.sl .str) (.pair (.sl (.pair .str (.pair (.sl I) (.pair (.sl I) (.pair (.sl I) (.pair (.sl I) .unit)))))) (.pair (.sl (.pair (.sl I) (.pair (.sl I) .unit))) .unit))), .ty I, .ty (.sl I)], [(I, 0), (I, 0)], fun x => qbq x.1 x.2.1 x.2.2⟩
def qhx : TH := qca [([28], 118, .inl 0, { lv := [⟨none, 4, 0⟩, ⟨none, 5, 0⟩, ⟨some 0, 11, 0⟩], ps := [(I, 0), (I, 0), (I, 0)], D := ⟨33554416⟩, wr := [⟨0, 11⟩], rs := [⟨0, 8⟩, ⟨0, 11⟩], Dn := ⟨33488880⟩ }),
 ([28], 118, .block 0, { lv := [⟨some 0, 11, 0⟩], ps := [(I, 0)], abn := true, D := ⟨33552832⟩, wr := [⟨0, 11⟩] }),
 ([28], 118, .loop 0, { lv := [⟨none, 11, 0⟩, ⟨some 0, 11, 0⟩], ps := [(I, 0), (I, 0)], D := ⟨33552832⟩, wr := [⟨0, 11⟩], rs := [⟨0, 8⟩, ⟨0, 11⟩], Dn := ⟨33487296⟩ }),
 ([42], 118, .inl 0, { lv := [⟨none, 4, 0⟩, ⟨none, 5, 0⟩], ps := [(I, 0), (I, 0)], D := ⟨33554416⟩, rs := [⟨0, 8⟩, ⟨0, 14⟩], Dn := ⟨33488880⟩ }),
 ([42], 118, .block 0, { lv := [], ps := [], abn := true, D := ⟨33552832⟩ }),
 ([42], 118, .loop 0, { lv := [⟨none, 11, 0⟩], ps := [(I, 0)], D := ⟨33552832⟩, rs := [⟨0, 8⟩, ⟨0, 14⟩], Dn := ⟨33487296⟩ }),
 ([42], 118, .region 4, { lv := [⟨none, 8, 0⟩], ps := [(I, 0)], D := ⟨983296⟩, rs := [⟨0, 8⟩, ⟨0, 14⟩], Dn := ⟨917760⟩ }),
 ([15, 19, 42], 146, .block 0, { lv := [], ps := [], abn := true, D := ⟨549755812960⟩, wr := [⟨3, 6⟩] }),
 ([15, 19, 42], 146, .loop 0, { lv := [⟨none, 10, 0⟩], ps := [(I, 0)], D := ⟨549755812960⟩, wr := [⟨3, 6⟩], rs := [⟨2, 15⟩, ⟨3, 6⟩], Dn := ⟨549688704032⟩ }),
 ([15, 19, 42], 146, .block 1, { lv := [], ps := [], abn := true, D := ⟨274877902944⟩, wr := [⟨3, 6⟩], rs := [⟨2, 15⟩, ⟨3, 6⟩], Dn := ⟨274810794016⟩ })] [([19, 42], 122, 14)]
theorem qhz : KT qbZ qhx [qD, qa5, qcu, qcG, qbg, qt, qp, qaz] 40 := fun x => by kernel_rfl
theorem qhw : OT qbZ := entK (qh qah (qh qfE (qh qi5 (qh qiM (qh qet (qh qV (qh qS (qh qdn qq)))))))) hJ qhz
def qeR (a0 : ((List (List UInt8)) × (List ((List UInt8) × (List Int) × (List Int) × (List Int) × (List Int) × Unit)) × (List ((List Int) × (List Int) × Unit)) × Unit)) (a1 : Int) : Option Bool :=
 (qU (fun (s2 : Int) =>
   bif decide (s2 < (a0.2.2.1.length : Int)) then
    (idx a0.2.2.1 s2).bind fun x3 =>
    (qef x3 a1).bind fun x4 =>
    bif x4 then
     some (.inr (.inr true))
    else
     some (.inl (w64 (s2 + 1)))
   else
    some (.inr (.inl ()))) 0).bind (Sum.elim (fun (p5 : Unit) =>
 some false) some)
def qeU : Entry := ⟨125, [.ty (.pair (.sl .str) (.pair (.sl (.pair .str (.pair (.sl I) (.pair (.sl I) (.pair (.sl I) (.pair (.sl I) .unit)))))) (.pair (.sl (.pair (.sl I) (.pair (.sl I) .unit))) .unit))), .ty I], [(.bool, 0)], fun x => qeR x.1 x.2⟩
def qnm : TH := qca [([], 125, .block 0, { lv := [], ps := [], abn := true, D := ⟨1048544⟩, rs := [⟨0, 2⟩], Dn := ⟨1048416⟩ }),
 ([], 125, .loop 0, { lv := [⟨none, 5, 0⟩], ps := [(I, 0)], D := ⟨1048544⟩, rs := [⟨0, 2⟩], Dn := ⟨1040224⟩ })] []
theorem qm9 : KT qeU qnm [qdO] 40 := fun x => by kernel_rfl
theorem qnf : OT qeU := entK (qh qiL qq) hJ qm9
def qbK (a0 : ((List (List UInt8)) × (List ((List UInt8) × (List Int) × (List Int) × (List Int) × (List Int) × Unit)) × (List ((List Int) × (List Int) × Unit)) × Unit)) (a1 : Int) (a2 : (List Int)) : Option (Int × Int) :=
 (qU (fun (s2 : Int) =>
   bif decide (s2 < (a2.length : Int)) then
    (idx a2 s2).bind fun x3 =>
    (qbF a0 x3).bind fun x4 =>
    bif !x4 then
     some (.inr (.inr (s2, 2)))
    else
     (bif decide (s2 > 0) then
       (idx a2 s2).bind fun x5 =>
       (idx a2 (w64 (s2 - 1))).bind fun x6 =>
       some (decide (x5 <= x6))
      else
       some false).bind fun (p7 : Bool) =>
     bif p7 then
      some (.inr (.inr (s2, 9)))
     else
      some (.inl (w64 (s2 + 1)))
   else
    some (.inr (.inl ()))) 0).bind (Sum.elim (fun (p8 : Unit) =>
 (qg5 a2 a1).bind fun x9 =>
 bif !x9 then
  some (0, 6)
 else
  (qU (fun (s11 : Int) =>
    bif decide (s11 < (a2.length : Int)) then
     (idx a2 s11).bind fun x12 =>
     (qeR a0 x12).bind fun x13 =>
     bif x13 then
      some (.inr (.inr (s11, 22)))
     else
      (qU (fun (s15 : Int) =>
        bif decide (s15 < (a0.2.1.length : Int)) then
         (idx a2 s11).bind fun x16 =>
         (qhs a0 x16 s15).bind fun x17 =>
         (bif x17.2 then
           (qg5 a2 x17.1).bind fun x18 =>
           some (!x18)
          else
           some false).bind fun (p19 : Bool) =>
         bif p19 then
          some (.inr (.inr (.inr (.inr (s11, 21)))))
         else
          some (.inl (w64 (s15 + 1)))
        else
         some (.inr (.inl ()))) 0).bind (Sum.elim (fun (p20 : Unit) =>
      some (.inl (w64 (s11 + 1)))) some)
    else
     some (.inr (.inl ()))) 0).bind (Sum.elim (fun (p21 : Unit) =>
  some (0, 0)) some)) some)
def qcj : Entry := ⟨63, [.ty (.pair (.sl .str) (.pair (.sl (.pair .str (.pair (.sl I) (.pair (.sl I) (.pair (.sl I) (.pair (.sl I) .unit)))))) (.pair (.sl (.pair (.sl I) (.pair (.sl I) .unit))) .unit))), .ty I, .ty (.sl I)], [(I, 0), (I, 0)], fun x => qbK x.1 x.2.1 x.2.2⟩
def qik : TH := qca [([], 63, .block 0, { lv := [], ps := [], abn := true, D := ⟨4398046503168⟩ }),
 ([], 63, .loop 0, { lv := [⟨none, 8, 0⟩], ps := [(I, 0)], D := ⟨4398046503168⟩ }),
 ([], 63, .region 6, { lv := [⟨none, 40, 0⟩], ps := [(.bool, 0)], D := ⟨2198889037824⟩ }),
 ([], 63, .block 2, { lv := [], ps := [], abn := true, D := ⟨19342813113763698051128832⟩ }),
 ([], 63, .loop 2, { lv := [⟨none, 9, 0⟩], ps := [(I, 0)], D := ⟨19342813113763698051128832⟩, rs := [⟨0, 3⟩], Dn := ⟨19342811960842193444281856⟩ }),
 ([], 63, .block 4, { lv := [], ps := [], abn := true, D := ⟨19342812537373314491882496⟩, rs := [⟨0, 3⟩], Dn := ⟨19342811384451809885035520⟩ }),
 ([], 63, .loop 4, { lv := [⟨none, 10, 0⟩], ps := [(I, 0)], D := ⟨19342812537373314491882496⟩, rs := [⟨0, 3⟩], Dn := ⟨19342811384451809885035520⟩ }),
 ([], 63, .region 19, { lv := [⟨none, 82, 0⟩], ps := [(.bool, 0)], D := ⟨9595848693191119074230272⟩ })] []
theorem qhV : KT qcj qik [qg4, qeU, qcv, qgZ] 40 := fun x => by kernel_rfl
theorem qhT : OT qcj := entK (qh qnZ (qh qnf (qh qgA (qh qqY qq)))) hJ qhV
def qcN (a0 : ((List (List UInt8)) × (List ((List UInt8) × (List Int) × (List Int) × (List Int) × (List Int) × Unit)) × (List ((List Int) × (List Int) × Unit)) × Unit)) (a1 : Int) (a2 : (List Int)) : Option Bool :=
 (qib).bind fun x1 =>
 bif !x1 then
  some false
 else
  ((qi1 a0).bind fun x2 =>
   bif !x2 then
    some true
   else
    some (decide ((a2.length : Int) > 300))).bind fun (p3 : Bool) =>
  bif p3 then
   some true
  else
   (qg8 a0).bind fun x4 =>
   (qbL a2).bind fun x5 =>
   (qbq x4 a1 x5).bind fun x6 =>
   (qdd a0 a1).bind fun x7 =>
   bif !(decide (x7 = 0)) then
    (bif decide (x6.2 = x7) then
      some (decide (x6.1 = 0))
     else
      some false).bind fun (p8 : Bool) =>
    some p8
   else
    (qbK a0 a1 a2).bind fun x9 =>
    (bif decide (x6.2 = x9.2) then
      some (decide (x6.1 = x9.1))
     else
      some false).bind fun (p10 : Bool) =>
    some p10
def qaS : Entry := ⟨11, [.ty (.pair (.sl .str) (.pair (.sl (.pair .str (.pair (.sl I) (.pair (.sl I) (.pair (.sl I) (.pair (.sl I) .unit)))))) (.pair (.sl (.pair (.sl I) (.pair (.sl I) .unit))) .unit))), .ty I, .ty (.sl I)], [(.bool, 0)], fun x => qcN x.1 x.2.1 x.2.2⟩
def qhA : TH := qca [([], 11, .region 3, { lv := [⟨none, 21, 0⟩], ps := [(.bool, 0)], D := ⟨4177920⟩ }),
 ([], 11, .region 8, { lv := [⟨none, 6, 0⟩], ps := [(.bool, 0)], D := ⟨8727373545536⟩ }),
 ([], 11, .region 10, { lv := [⟨none, 6, 0⟩], ps := [(.bool, 0)], D := ⟨287104476244869184⟩ })] []
theorem qhE : KT qaS qhA [qcB, qcJ, qir, qdv, qcj, qgE, qbZ] 40 := fun x => by kernel_rfl
theorem qhD : OT qaS := entK (qh qgN (qh qpl (qh qre (qh qkK (qh qhT (qh qqv (qh qhw qq))))))) hJ qhE
end
end Go.Proofs.YtkcaaaiihhhnmaaGreat
end
section
namespace Go.Proofs.YtkcaaaiihhhnmaaGreat
open Go Go.Ab Go.Tx
theorem wit (n lo hi : Int) : qn n lo hi = some (decide (lo <= n /\ n <= hi)) := by
 unfold qn;by_cases h : lo <= n <;> by_cases h' : n <= hi <;> simp [h, h']
theorem Wit (n lo hi : Int) : qeq n lo hi = some (decide (lo <= n /\ n <= hi)) := by
 unfold qeq;by_cases h : lo <= n <;> by_cases h' : n <= hi <;> simp [h, h']
theorem wq {n : Int} (h1 : -9223372036854775808 <= n) (h2 : n <= 9223372036854775807) : w64 n = n := qgO h1 h2
theorem unl (b : Bool) (e : Int) : qm b e = some (if b then 0 else e) := by cases b <;> rfl
theorem qyh (l : List Int) (h : l.length <= 1000000000) : qx l = some (qiz l) := by
 unfold qx; exact qu8 l h
abbrev Rg := Int × Int × Unit
def wOk (w : Rg) : Prop := (-1000000 <= w.1 /\ w.1 <= 1000000) /\ (1 <= w.2.1 /\ w.2.1 <= 8)
instance (w : Rg) : Decidable (wOk w) := by unfold wOk; infer_instance
def hF (m : Int) (x : Rg) : Int := if x.2.1 > m then 1 else 0
end Go.Proofs.YtkcaaaiihhhnmaaGreat
end
section
namespace Go.Proofs.YtkcaaaiihhhnmaaGreat
open Go Go.Ab Go.Tx
abbrev Nm := List UInt8
abbrev Gt := List UInt8 × List (List UInt8) × Int × Unit
abbrev Sg := Int × List UInt8 × List UInt8 × Unit
theorem qAd (l : List Nm) (m : Nm) : qgj .str l m = decide (m ∈ l) := by
 have := qw8 (τ := .str) rfl (l := l) (k := m);by_cases h : m ∈ l
 ·rw [decide_eq_true h]; exact this.2 h
 ·rw [decide_eq_false h];cases hm : qgj .str l m with
  | false => rfl
  | true => exact absurd (this.1 hm) h
theorem qAj (l : List Nm) (k : Nm) : qkq .str l k = if k ∈ l then l else l ++ [k] := by
 unfold qkq;rw [qAd];by_cases h : k ∈ l
 ·rw [decide_eq_true h, if_pos h]; rfl
 ·rw [decide_eq_false h, if_neg h]; rfl
theorem qsu (l : List Nm) (m k : Nm) : m ∈ qkq .str l k ↔ m ∈ l \/ m = k := by
 rw [qAj];split
 ·rename_i h; exact ⟨fun h => .inl h, fun h' => h'.elim id fun e => e ▸ h⟩
 ·simp
theorem qg6 {ρ : Type} (n : Nat) (K : Int -> Option (Int ⊕ (Unit ⊕ ρ))) (q : Nat -> Prop) [∀ i, Decidable (q i)] (r : ρ) (c : Prop) [Decidable c] (hc : c ↔ ∃ j, j < n /\ q j)
  (h : ∀ i, i < n -> K (i : Int) = some (if q i then .inr (.inr r) else .inl ((i : Int) + 1))) :
  qU (fun s => bif decide (s < (n : Int)) then K s else some (.inr (.inl ()))) 0 = some (if c then .inr r else .inl ()) := by
 refine Ok.eq (qfJ n (fun i (s : Int) => s = (i : Int) /\ ∀ j, j < i -> ¬ q j) _ ⟨rfl, by omega⟩ ?_);rintro i s hi ⟨rfl, hI⟩;by_cases hlt : i < n
 ·have h0 : decide ((i : Int) < (n : Int)) = true := by simp <;> omega
  simp only [h0, cond_true];rw [h i hlt];by_cases hq : q i
  ·rw [if_pos hq, qdC, if_pos (hc.2 ⟨i, hlt, hq⟩)]
  ·rw [if_neg hq, qeA];refine ⟨hlt, by simp, fun j hj => ?_⟩;by_cases e : j = i
   ·subst e; exact hq
   ·exact hI j (by omega)
 ·have h0 : decide ((i : Int) < (n : Int)) = false := by simp <;> omega
  simp only [h0, cond_false];rw [qdC, if_neg (fun h => by
   obtain ⟨j, h1, h2⟩ := hc.1 h;exact hI j (by omega) h2)]
theorem qfS {α : Type} {l : List α} {i : Nat} {a : α} : a ∈ l.take i ↔ ∃ j, j < i /\ l[j]? = some a := by
 rw [List.mem_iff_getElem?];constructor
 ·rintro ⟨j, h⟩;rw [List.getElem?_take] at h;split at h
  ·exact ⟨j, by assumption, h⟩
  ·cases h
 ·rintro ⟨j, h1, h2⟩;exact ⟨j, by rw [List.getElem?_take, if_pos h1]; exact h2⟩
theorem qmv {α : Type} {g : Nat -> α -> Int} : ∀ (l m : List α) (k : Nat), qaJ g k (l ++ m) = if (qaJ g k l).2 = 0 then qaJ g (k + l.length) m else qaJ g k l
 | [], m, k => by simp [qaJ]
 | a :: l, m, k => by
  simp only [List.cons_append, qaJ];by_cases h : g k a = 0
  ·simp only [h, if_true];rw [qmv l m (k + 1), List.length_cons, show k + 1 + l.length = k + (l.length + 1) by omega]
  ·simp [h]
theorem qoo {α : Type} {g : Nat -> α -> Int} : ∀ {l : List α} {k : Nat}, (qaJ g k l).2 = 0 -> qaJ g k l = (0, 0)
 | [], k, _ => rfl
 | a :: l, k, h => by
  simp only [qaJ] at h ⊢;by_cases h0 : g k a = 0
  ·simp only [h0, if_true] at h ⊢; exact qoo h
  ·simp [h0] at h
theorem qtC {α : Type} {g : Nat -> α -> Int} {l : List α} {i : Nat} {a : α} (h : l[i]? = some a) : (qaJ g 0 (l.take (i + 1))).2 = if (qaJ g 0 (l.take i)).2 = 0 then g i a else (qaJ g 0 (l.take i)).2 := by
 have hlt := qaE h;rw [qb7 a hlt, qaT h, qmv];split
 ·rw [List.length_take, Nat.min_eq_left (by omega), Nat.zero_add];simp only [qaJ];by_cases h0 : g i a = 0 <;> simp [h0]
 ·rfl
theorem qvv {α : Type} {g : Nat -> α -> Int} {l : List α} {i : Nat} {a : α} (h : l[i]? = some a) (h0 : (qaJ g 0 (l.take i)).2 = 0) (ha : g i a ≠ 0) : qaJ g 0 l = ((i : Int), g i a) := by
 have hlt := qaE h;have hl : l = l.take i ++ a :: l.drop (i + 1) := by
  have h2 : l[i] = a := by
   have := List.getElem?_eq_getElem hlt;rw [this] at h; exact Option.some.inj h
  rw [<- h2, <- List.drop_eq_getElem_cons hlt]; simp
 rw [hl, qmv, if_pos h0, List.length_take, Nat.min_eq_left (by omega), Nat.zero_add];simp [qaJ, ha]
def qwC (c : UInt8) : Bool := decide (97 <= (c.toNat : Int) /\ (c.toNat : Int) <= 122) || decide (65 <= (c.toNat : Int) /\ (c.toNat : Int) <= 90)
def qtu (i : Nat) (c : UInt8) : Bool := !qwC c && (decide ((i : Int) = 0) || (!decide ((c.toNat : Int) = 45) && !decide (48 <= (c.toNat : Int) /\ (c.toNat : Int) <= 57)))
def isN (s : Nm) : Bool := decide (1 <= (s.length : Int) /\ (s.length : Int) <= 12) && (qbl (fun i c => if qtu i c = true then some false else none) 0 s).isNone
theorem qzH (c : UInt8) : (c.toNat : Int) < 256 := by
 have := UInt8.toNat_lt c; omega
theorem qpY (s : Nm) (hl : s.length <= 1000000000) : qbh s = some (isN s) := by
 unfold qbh;rw [qaH s _ (fun i c => if qtu i c = true then some false else none) (fun i c hi => by
  have := qaE hi;have hu := qzH c;rw [qaf hi];simp only [qa];rw [wq (by omega) (by omega)];simp only [wit, qa];have c1 : (bif decide (97 <= (c.toNat : Int) /\ (c.toNat : Int) <= 122) then some true else some (decide (65 <= (c.toNat : Int) /\ (c.toNat : Int) <= 90))) = some (qwC c) := by
   unfold qwC; cases decide (97 <= (c.toNat : Int) /\ (c.toNat : Int) <= 122) <;> rfl
  rw [c1];simp only [qa];have c2 : (bif !qwC c then bif decide ((i : Int) = 0) then some true else bif !(decide ((c.toNat : Int) = 45)) then some (!decide (48 <= (c.toNat : Int) /\ (c.toNat : Int) <= 57)) else some false else some false) = some (qtu i c) := by
   unfold qtu;cases qwC c <;> cases decide ((i : Int) = 0) <;> cases decide ((c.toNat : Int) = 45) <;> rfl
  rw [c2];simp only [qa];cases qtu i c
  ·simp only [cond_false, qf, if_false, stp]; rw [wq (by omega) (by omega)]
  ·rfl), q7]
 unfold isN;have hs : ∀ r, qbl (fun i c => if qtu i c = true then some false else none) 0 s = some r -> r = false := by
  intro r hr;obtain ⟨i, a, _, h2, _⟩ := qaC hr;split at h2
  ·exact (Option.some.inj h2).symm
  ·cases h2
 cases hf : qbl (fun i c => if qtu i c = true then some false else none) 0 s with
 | none => simp [wit]
 | some r => rw [hs r hf]; simp
theorem qpU (s : Nm) : qer s = some (isN s) := by
 unfold qer;by_cases h1 : (s.length : Int) < 1
 ·have : ¬ (1 <= (s.length : Int) /\ (s.length : Int) <= 12) := by omega
  simp only [isN, decide_eq_false this, Bool.false_and];simp only [h1, decide_true, cond_true, qa]
 ·by_cases h2 : (s.length : Int) > 12
  ·have : ¬ (1 <= (s.length : Int) /\ (s.length : Int) <= 12) := by omega
   simp only [isN, decide_eq_false this, Bool.false_and];simp only [h1, h2, decide_true, decide_false, cond_true, cond_false, qa]
  ·have hr : (1 <= (s.length : Int) /\ (s.length : Int) <= 12) := by omega
   simp only [isN, decide_eq_true hr, Bool.true_and];simp only [h1, h2, decide_true, decide_false, cond_true, cond_false, qa];rw [qaH s _ (fun i c => if qtu i c = true then some false else none) (fun i c hi => by
    have := qaE hi;have hu := qzH c;rw [qaf hi];simp only [qa];have c1 : (bif decide ((c.toNat : Int) >= 97) then bif decide ((c.toNat : Int) <= 122) then some true else bif decide ((c.toNat : Int) >= 65) then some (decide ((c.toNat : Int) <= 90)) else some false
      else bif decide ((c.toNat : Int) >= 65) then some (decide ((c.toNat : Int) <= 90)) else some false) = some (qwC c) := by
     unfold qwC;by_cases a1 : (c.toNat : Int) >= 97 <;> by_cases a2 : (c.toNat : Int) <= 122 <;> by_cases a3 : (c.toNat : Int) >= 65 <;> by_cases a4 : (c.toNat : Int) <= 90 <;> simp [a1, a2, a3, a4]
    rw [c1];simp only [qa];have c2 : (bif !qwC c then bif decide ((i : Int) = 0) then some true else bif !(decide ((c.toNat : Int) = 45)) then bif decide ((c.toNat : Int) < 48) then some true else some (decide ((c.toNat : Int) > 57)) else some false else some false) = some (qtu i c) := by
     unfold qtu;have e : (bif decide ((c.toNat : Int) < 48) then some true else some (decide ((c.toNat : Int) > 57))) = some (!decide (48 <= (c.toNat : Int) /\ (c.toNat : Int) <= 57)) := by
      by_cases a1 : (c.toNat : Int) < 48
      ·have : ¬ (48 <= (c.toNat : Int) /\ (c.toNat : Int) <= 57) := by omega
       rw [decide_eq_true a1, decide_eq_false this]; rfl
      ·rw [decide_eq_false a1];by_cases a2 : (c.toNat : Int) > 57
       ·have : ¬ (48 <= (c.toNat : Int) /\ (c.toNat : Int) <= 57) := by omega
        rw [decide_eq_true a2, decide_eq_false this]; rfl
       ·have : (48 <= (c.toNat : Int) /\ (c.toNat : Int) <= 57) := by omega
        rw [decide_eq_false a2, decide_eq_true this]; rfl
     rw [e];cases qwC c <;> cases decide ((i : Int) = 0) <;> cases decide ((c.toNat : Int) = 45) <;> rfl
    rw [c2];simp only [qa];cases qtu i c
    ·simp only [cond_false, qf, if_false, stp]; rw [wq (by omega) (by omega)]
    ·rfl), q7]
   have hs : ∀ r, qbl (fun i c => if qtu i c = true then some false else none) 0 s = some r -> r = false := by
    intro r hr;obtain ⟨i, a, _, h2, _⟩ := qaC hr;split at h2
    ·exact (Option.some.inj h2).symm
    ·cases h2
   cases hf : qbl (fun i c => if qtu i c = true then some false else none) 0 s with
   | none => simp
   | some r => rw [hs r hf]; simp
structure GB (gs : List Gt) : Prop where
 len : gs.length <= 8
 nm : ∀ g ∈ gs, g.1.length <= 30
 rl : ∀ g ∈ gs, g.2.1.length <= 6
 rn : ∀ g ∈ gs, ∀ r ∈ g.2.1, r.length <= 30
theorem qt3 (l : List Nm) (t : Nm) (hl : l.length <= 1000000000) : qeK l t = some (decide (t ∈ l)) := by
 unfold qeK;rw [qg6 l.length _ (fun j => l[j]? = some t) true (t ∈ l) (by
  rw [List.mem_iff_getElem?];exact ⟨fun ⟨j, h⟩ => ⟨j, qaE h, h⟩, fun ⟨j, _, h⟩ => ⟨j, h⟩⟩) (fun i hi => by
  have hx : l[i]? = some l[i] := List.getElem?_eq_getElem hi;rw [qaf hx];simp only [qa, hx, qb];by_cases h : l[i] = t
  ·simp [h]
  ·simp only [h, decide_false, cond_false, if_false]; rw [wq (by omega) (by omega)])]
 by_cases h : t ∈ l <;> simp [h]
end Go.Proofs.YtkcaaaiihhhnmaaGreat
end
section
namespace Go.Proofs.YtkcaaaiihhhnmaaGreat
open Go Go.Ab Go.Tx
abbrev Lm := Int × Int × Int × Int × Int × Unit
abbrev Mo := Int × Int × Int × Unit
abbrev En := Int × Int × Int × Int × Unit
structure LimOk (x : Lm) : Prop where
 lo : -60 <= x.1 /\ x.1 <= 60
 hi : -60 <= x.2.1 /\ x.2.1 <= 60
 sp : 1 <= x.2.2.1 /\ x.2.2.1 <= 8
 pu : 1 <= x.2.2.2.1 /\ x.2.2.2.1 <= 3
 je : 1 <= x.2.2.2.2.1 /\ x.2.2.2.2.1 <= 6
theorem quI (x : Lm) : LimOk x ↔ (-60 <= x.1 /\ x.1 <= 60) /\ (-60 <= x.2.1 /\ x.2.1 <= 60) /\ (1 <= x.2.2.1 /\ x.2.2.1 <= 8) /\ (1 <= x.2.2.2.1 /\ x.2.2.2.1 <= 3) /\ (1 <= x.2.2.2.2.1 /\ x.2.2.2.2.1 <= 6) :=
 ⟨fun h => ⟨h.1, h.2, h.3, h.4, h.5⟩, fun h => ⟨h.1, h.2.1, h.2.2.1, h.2.2.2.1, h.2.2.2.2⟩⟩
instance (x : Lm) : Decidable (LimOk x) := decidable_of_iff _ (quI x).symm
def qor (x : Lm) (s : Mo) : Prop := (x.1 <= s.1 /\ s.1 <= x.2.1) /\ (-x.2.2.1 <= s.2.1 /\ s.2.1 <= x.2.2.1) /\ (-x.2.2.2.1 <= s.2.2.1 /\ s.2.2.1 <= x.2.2.2.1)
instance (x : Lm) (s : Mo) : Decidable (qor x s) := by unfold qor; infer_instance
def nxt (s : Mo) (p : Int) : Mo := (s.1 + (s.2.1 + p), s.2.1 + p, p, ())
def pok (x : Lm) (s : Mo) (p : Int) : Prop := (-x.2.2.2.1 <= p /\ p <= x.2.2.2.1) /\ (-x.2.2.2.2.1 <= p - s.2.2.1 /\ p - s.2.2.1 <= x.2.2.2.2.1) /\ qor x (nxt s p)
instance (x : Lm) (s : Mo) (p : Int) : Decidable (pok x s p) := by unfold pok; infer_instance
def mot (e : En) : Mo := (e.1, e.2.1, e.2.2.1, ())
def qu3 (m : Mo) : Prop := m.2.1 = 0 /\ m.2.2.1 = 0
instance (m : Mo) : Decidable (qu3 m) := by unfold qu3; infer_instance
def qAl (m : Mo) (k : Int) : En := (m.1, m.2.1, m.2.2.1, k, ())
inductive Pth (all : List En) : Nat -> List Int -> Prop
 | nil {k : Nat} {e : En} : all[k]? = some e -> e.2.2.2.1 < 0 -> Pth all k []
 | snoc {k : Nat} {e : En} {l : List Int} : all[k]? = some e -> 0 <= e.2.2.2.1 -> Pth all e.2.2.2.1.toNat l -> Pth all k (l ++ [e.2.2.1])
structure Good (x : Lm) (all : List En) : Prop where
 nd : (all.map mot).Nodup
 ok : ∀ e ∈ all, qor x (mot e)
 bef : ∀ (k : Nat) e, all[k]? = some e -> e.2.2.2.1 < k /\ -1 <= e.2.2.2.1
 pos : 0 < all.length
theorem qvP {a b a' b' B : Int} (h1 : 0 <= b /\ b < B) (h2 : 0 <= b' /\ b' < B) (h : a * B + b = a' * B + b') : a = a' /\ b = b' := by
 have e1 : (a * B + b) / B = a := by rw [Int.add_comm, Int.add_mul_ediv_right _ _ (by omega), Int.ediv_eq_zero_of_lt h1.1 h1.2]; omega
 have e2 : (a' * B + b') / B = a' := by rw [Int.add_comm, Int.add_mul_ediv_right _ _ (by omega), Int.ediv_eq_zero_of_lt h2.1 h2.2]; omega
 have : a = a' := by rw [<- e1, h, e2]
 subst this;exact ⟨rfl, by omega⟩
theorem qzD {a b A B : Int} (h1 : 0 <= a /\ a < A) (h2 : 0 <= b /\ b < B) : 0 <= a * B + b /\ a * B + b < A * B := by
 have h3 : 0 <= a * B := Int.mul_nonneg h1.1 (by omega);have h4 : (a + 1) * B <= A * B := Int.mul_le_mul_of_nonneg_right (by omega) (by omega);have h5 : (a + 1) * B = a * B + B := by rw [Int.add_mul]; omega
 omega
def qqz (x : Lm) (m : Mo) : Int := ((m.1 - x.1) * (2 * x.2.2.1 + 1) + (m.2.1 + x.2.2.1)) * (2 * x.2.2.2.1 + 1) + (m.2.2.1 + x.2.2.2.1)
def NN (x : Lm) : Int := (x.2.1 - x.1 + 1) * (2 * x.2.2.1 + 1) * (2 * x.2.2.2.1 + 1)
theorem qsY {x : Lm} {m : Mo} (h : qor x m) : 0 <= qqz x m /\ qqz x m < NN x := by
 obtain ⟨h1, h2, h3⟩ := h;exact qzD (qzD (by omega) (by omega)) (by omega)
theorem qvV {x : Lm} {m m' : Mo} (h : qor x m) (h' : qor x m') (e : qqz x m = qqz x m') : m = m' := by
 obtain ⟨h1, h2, h3⟩ := h;obtain ⟨h1', h2', h3'⟩ := h';obtain ⟨e1, e2⟩ := qvP (by omega) (by omega) e;obtain ⟨e3, e4⟩ := qvP (by omega) (by omega) e1;obtain ⟨a, b, c, ⟨⟩⟩ := m;obtain ⟨a', b', c', ⟨⟩⟩ := m';simp only at e2 e3 e4;have : a = a' := by omega
 have : b = b' := by omega
 have : c = c' := by omega
 subst_vars; rfl
end Go.Proofs.YtkcaaaiihhhnmaaGreat
end
section
namespace Go.Proofs.YtkcaaaiihhhnmaaGreat
open Go Go.Ab Go.Tx
abbrev E6 := Int × Int × Int × Int × Int × Unit
def prj (e : E6) : En := (e.1, e.2.1, e.2.2.1, e.2.2.2.1, ())
structure Sn (x : Lm) (fo : List E6) (sn : List Bool) : Prop where
 len : sn.length = (NN x).toNat
 at_ : ∀ m, qor x m -> sn[(qqz x m).toNat]? = some (decide (m ∈ (fo.map prj).map mot))
theorem Sn.add {x : Lm} {fo : List E6} {sn : List Bool} (h : Sn x fo sn) {m : Mo} (hm : qor x m) {e : E6} (he : mot (prj e) = m) : Sn x (fo ++ [e]) (sn.set (qqz x m).toNat true) := by
 refine ⟨by rw [List.length_set]; exact h.len, fun m' hm' => ?_⟩;have c1 := qsY hm;have c2 := qsY hm';have hlen := h.len;have hmem : m' ∈ ((fo ++ [e]).map prj).map mot ↔ m' ∈ (fo.map prj).map mot \/ m' = m := by
  rw [List.map_append, List.map_append, List.mem_append];simp only [List.map_cons, List.map_nil, List.mem_singleton, he]
 by_cases heq : m' = m
 ·subst heq;rw [List.getElem?_set_self (by omega), decide_eq_true (hmem.2 (.inr rfl))]
 ·have hne : (qqz x m).toNat ≠ (qqz x m').toNat := fun e => heq (qvV hm' hm (by omega));rw [List.getElem?_set_ne hne, h.at_ m' hm'];congr 1
  rw [decide_eq_decide, hmem];exact ⟨fun h => .inl h, fun h => h.elim id fun h => absurd h heq⟩
end Go.Proofs.YtkcaaaiihhhnmaaGreat
end
section
namespace Go.Proofs.YtkcaaaiihhhnmaaGreat
open Go Go.Ab Go.Tx
theorem qh3 (l : List Int) (h : l.length <= 1000) : qbL l = some l := by
 unfold qbL;rw [qvk (by omega)]; rfl
end Go.Proofs.YtkcaaaiihhhnmaaGreat
end
section
namespace Go.Proofs.YtkcaaaiihhhnmaaGreat
open Go Go.Ab Go.Tx
structure Bf (x : Lm) (s : Mo) (i : Nat) (all : List En) (d : Nat -> Nat) : Prop where
 le : i <= all.length
 root : all[0]? = some (qAl s (-1)) /\ d 0 = 0
 par : ∀ (k : Nat) e, all[k]? = some e -> 0 < k -> ∃ (j : Nat) (e' : En), e.2.2.2.1 = (j : Int) /\ j < k /\ d k = d j + 1 /\ all[j]? = some e' /\ pok x (mot e') e.2.2.1 /\ mot e = nxt (mot e') e.2.2.1
 mono : ∀ k k', k <= k' -> k' < all.length -> d k <= d k'
 done : ∀ (k : Nat) e, k < i -> all[k]? = some e -> ¬ qu3 (mot e) /\ ∀ p, pok x (mot e) p -> ∃ (k2 : Nat) (e2 : En), all[k2]? = some e2 /\ mot e2 = nxt (mot e) p /\ d k2 <= d k + 1
 top : ∀ k, k < all.length -> i < all.length -> d k <= d i + 1
end Go.Proofs.YtkcaaaiihhhnmaaGreat
end
section
namespace Go.Proofs.YtkcaaaiihhhnmaaGreat
open Go Go.Ab Go.Tx
theorem qvE (l : List Int) (t : Int) (hl : l.length <= 1000000000) : qg5 l t = some (decide (t ∈ l)) := by
 unfold qg5;have key := qaH l (fun s2 => (idx l s2).bind fun x3 =>
    bif decide (x3 = t) then
     some (.inr (.inr true))
    else
     some (.inl (w64 (s2 + 1)))) (fun _ a => if a = t then some true else none) (fun i a hi => by
  have := qaE hi;rw [qaf hi];simp only [qa];by_cases h : a = t
  ·simp [h, stp]
  ·simp only [h, decide_false, cond_false, if_false, stp]; rw [wq (by omega) (by omega)])
 rw [key, q7];cases hf : qbl (fun (_ : Nat) a => if a = t then some true else none) 0 l with
 | none =>
  rw [qbC] at hf;have : t ∉ l := fun h => by
   obtain ⟨i, hi⟩ := List.mem_iff_getElem?.1 h;have := hf i t hi;simp at this
  simp [this]
 | some r =>
  obtain ⟨i, a, h1, h2, _⟩ := qaC hf;split at h2
  ·rename_i h; subst h;simp only [qb] at h2; subst h2;simp [List.mem_of_getElem? h1]
  ·cases h2
end Go.Proofs.YtkcaaaiihhhnmaaGreat
end
section
namespace Go.Proofs.YtkcaaaiihhhnmaaGreat
open Go Go.Ab Go.Tx
abbrev Ts := List Int × List Int × Unit
abbrev Ac := Nm × List Int × List Int × List Int × List Int × Unit
abbrev Mc := List Nm × List Ac × List Ts × Unit
abbrev qcS (a : Ac) : Ts := (a.2.1, a.2.2.1, ())
abbrev dos (a : Ac) : Ts := (a.2.2.2.1, a.2.2.2.2.1, ())
def shT (t : Ts) : Prop := t.1.length <= 10 /\ t.2.1.length <= 10
instance (t : Ts) : Decidable (shT t) := by unfold shT; infer_instance
structure MB (m : Mc) : Prop where
 fl : m.1.length <= 10
 ac : m.2.1.length <= 12
 hm : m.2.2.1.length <= 6
 fn : ∀ s ∈ m.1, s.length <= 30
 an : ∀ a ∈ m.2.1, a.1.length <= 30 /\ shT (qcS a) /\ shT (dos a)
 ht : ∀ t ∈ m.2.2.1, shT t
theorem qs0 (t : Ts) : qc0 t = some (decide (shT t)) := by
 unfold qc0 shT;by_cases h1 : t.1.length <= 10
 ·have h1' : (t.1.length : Int) <= 10 := by omega
  by_cases h2 : t.2.1.length <= 10
  ·have h2' : (t.2.1.length : Int) <= 10 := by omega
   simp [h1, h2, h1', h2']
  ·have h2' : ¬ (t.2.1.length : Int) <= 10 := by omega
   simp [h1, h2, h1', h2']
 ·have h1' : ¬ (t.1.length : Int) <= 10 := by omega
  simp [h1, h1']
theorem qzx (m : Mc) : ∃ b, qi1 m = some b /\ (b = true -> MB m) := by
 unfold qi1;by_cases g1 : (m.1.length : Int) > 10
 ·exact ⟨false, by simp only [g1, decide_true, cond_true, qa], fun h => by cases h⟩
 by_cases g2 : (m.2.1.length : Int) > 12
 ·exact ⟨false, by simp only [g1, g2, decide_true, decide_false, cond_true, cond_false, qa], fun h => by cases h⟩
 by_cases g3 : (m.2.2.1.length : Int) > 6
 ·exact ⟨false, by simp only [g1, g2, g3, decide_true, decide_false, cond_true, cond_false, qa], fun h => by cases h⟩
 simp only [g1, g2, g3, decide_false, cond_false, qa];rw [qaH m.1 _ (fun _ s => if (s.length : Int) > 30 then some false else none) (fun i a hi => by
  have := qaE hi;rw [qaf hi];simp only [qa];by_cases h : (a.length : Int) > 30
  ·simp only [h, decide_true, cond_true, if_true, stp]
  ·simp only [h, decide_false, cond_false, if_false, stp]; rw [wq (by omega) (by omega)]), q7]
 cases hf1 : qbl (fun _ (s : Nm) => if (s.length : Int) > 30 then some false else none) 0 m.1 with
 | some r =>
  obtain ⟨i, a, _, h2, _⟩ := qaC hf1;split at h2
  ·cases h2; exact ⟨false, rfl, fun h => by cases h⟩
  ·cases h2
 | none =>
  simp only
  rw [qaH m.2.1 _ (fun _ a => if (a.1.length : Int) > 30 \/ ¬ shT (qcS a) \/ ¬ shT (dos a) then some false else none) (fun i a hi => by
   have := qaE hi;rw [qaf hi];simp only [qa, qs0];by_cases h : (a.1.length : Int) > 30
   ·simp only [h, decide_true, cond_true, true_or, if_true, stp, qa]
   ·by_cases h2 : shT (qcS a)
    ·by_cases h3 : shT (dos a)
     ·simp only [h, h2, h3, decide_true, decide_false, cond_false, Bool.not_true, not_true, or_self, if_false, stp, qa]; rw [wq (by omega) (by omega)]
     ·simp only [h, h2, h3, decide_true, decide_false, cond_false, cond_true, Bool.not_true, Bool.not_false, not_true, not_false_eq_true, or_true, if_true, stp, qa]
    ·simp only [h, h2, decide_true, decide_false, cond_false, cond_true, Bool.not_true, Bool.not_false, not_false_eq_true, or_true, true_or, if_true, stp, qa]), q7]
  cases hf2 : qbl (fun _ (a : Ac) => if (a.1.length : Int) > 30 \/ ¬ shT (qcS a) \/ ¬ shT (dos a) then some false else none) 0 m.2.1 with
  | some r =>
   obtain ⟨i, a, _, h2, _⟩ := qaC hf2;split at h2
   ·cases h2; exact ⟨false, rfl, fun h => by cases h⟩
   ·cases h2
  | none =>
   simp only
   rw [qaH m.2.2.1 _ (fun _ a => if ¬ shT a then some false else none) (fun i a hi => by
    have := qaE hi;rw [qaf hi];simp only [qa, qs0];by_cases h : shT a
    ·simp only [h, decide_true, cond_false, Bool.not_true, not_true, if_false, stp]; rw [wq (by omega) (by omega)]
    ·simp only [h, decide_false, cond_true, Bool.not_false, not_false_eq_true, if_true, stp]), q7]
   cases hf3 : qbl (fun _ (a : Ts) => if ¬ shT a then some false else none) 0 m.2.2.1 with
   | some r =>
    obtain ⟨i, a, _, h2, _⟩ := qaC hf3;split at h2
    ·cases h2; exact ⟨false, rfl, fun h => by cases h⟩
    ·cases h2
   | none =>
    refine ⟨true, rfl, fun _ => ⟨by omega, by omega, by omega, fun s hs => ?_, fun a ha => ?_, fun t ht => ?_⟩⟩
    ·obtain ⟨i, hi⟩ := List.mem_iff_getElem?.1 hs;have := qbC.1 hf1 i s hi;by_cases h : (s.length : Int) > 30
     ·simp only [h, if_true] at this; cases this
     ·omega
    ·obtain ⟨i, hi⟩ := List.mem_iff_getElem?.1 ha;have := qbC.1 hf2 i a hi;by_cases h : (a.1.length : Int) > 30 \/ ¬ shT (qcS a) \/ ¬ shT (dos a)
     ·simp only [h, if_true] at this; cases this
     ·simp only [not_or, Classical.not_not] at h;exact ⟨by omega, h.2⟩
    ·obtain ⟨i, hi⟩ := List.mem_iff_getElem?.1 ht;have := qbC.1 hf3 i t hi;by_cases h : ¬ shT t
     ·simp only [h, not_false_eq_true, if_true] at this; cases this
     ·exact Classical.not_not.1 h
theorem qhR {t : Ts} (h : shT t) : qau t = some t := by
 obtain ⟨h1, h2⟩ := h;unfold qau;rw [qh3 _ (by omega), qh3 _ (by omega)]; rfl
theorem qyU {m : Mc} (hb : MB m) : qg8 m = some m := by
 have h1 := hb.fl; have h2 := hb.ac; have h3 := hb.hm;unfold qg8 qe5;rw [qvk (by omega)];simp only [qa];have k1 : Ok (qU (fun (s4 : (Int × (List Nm) × (List Ac) × (List Ts))) =>
   bif decide (s4.1 < (m.2.1.length : Int)) then
    (idx m.2.1 s4.1).bind fun x5 =>
    (idx m.2.1 s4.1).bind fun x6 =>
    (qau (x6.2.1, x6.2.2.1, ())).bind fun x7 =>
    (idx m.2.1 s4.1).bind fun x8 =>
    (qau (x8.2.2.2.1, x8.2.2.2.2.1, ())).bind fun x9 =>
    (app s4.2.2.1 ([(x5.1, x7.1, x7.2.1, x9.1, x9.2.1, ())])).bind fun x10 =>
    some (.inl (w64 (s4.1 + 1), s4.2.1, x10, s4.2.2.2))
   else
    some (.inr (s4.2.1, s4.2.2.1, s4.2.2.2))) (0, m.1, [], [])) (fun r => r = (m.1, m.2.1, [])) := by
  refine qfJ m.2.1.length (fun i (s : Int × List Nm × List Ac × List Ts) => s = ((i : Int), m.1, m.2.1.take i, [])) _ rfl ?_;rintro i s hi rfl;by_cases hlt : i < m.2.1.length
  ·obtain ⟨a, ha⟩ : ∃ a, m.2.1[i]? = some a := ⟨_, List.getElem?_eq_getElem hlt⟩
   have h0 : decide ((i : Int) < (m.2.1.length : Int)) = true := by simp <;> omega
   obtain ⟨_, b1, b2⟩ := hb.an a (List.mem_of_getElem? ha);simp only [h0, cond_true, qaf ha, qa];rw [qhR b1, qhR b2];simp only [qa];rw [qmT (by rw [List.length_take]; omega)];simp only [qa];rw [wq (by omega) (by omega), qeA];exact ⟨hlt, by rw [qb7 a hlt, qaT ha]; simp⟩
  ·have : i = m.2.1.length := by omega
   subst this;have h0 : decide ((m.2.1.length : Int) < (m.2.1.length : Int)) = false := by simp
   simp only [h0, cond_false];rw [qdC, List.take_length]
 rw [k1.eq];simp only [qa];have k2 : Ok (qU (fun (s13 : (Int × (List Nm) × (List Ac) × (List Ts))) =>
   bif decide (s13.1 < (m.2.2.1.length : Int)) then
    (idx m.2.2.1 s13.1).bind fun x14 =>
    (qau x14).bind fun x15 =>
    (app s13.2.2.2 ([x15])).bind fun x16 =>
    some (.inl (w64 (s13.1 + 1), s13.2.1, s13.2.2.1, x16))
   else
    some (.inr (s13.2.1, s13.2.2.1, s13.2.2.2))) (0, m.1, m.2.1, [])) (fun r => r = (m.1, m.2.1, m.2.2.1)) := by
  refine qfJ m.2.2.1.length (fun i (s : Int × List Nm × List Ac × List Ts) => s = ((i : Int), m.1, m.2.1, m.2.2.1.take i)) _ rfl ?_;rintro i s hi rfl;by_cases hlt : i < m.2.2.1.length
  ·obtain ⟨a, ha⟩ : ∃ a, m.2.2.1[i]? = some a := ⟨_, List.getElem?_eq_getElem hlt⟩
   have h0 : decide ((i : Int) < (m.2.2.1.length : Int)) = true := by simp <;> omega
   have b1 := hb.ht a (List.mem_of_getElem? ha);simp only [h0, cond_true, qaf ha, qa];rw [qhR b1];simp only [qa];rw [qmT (by rw [List.length_take]; omega)];simp only [qa];rw [wq (by omega) (by omega), qeA];exact ⟨hlt, by rw [qb7 a hlt, qaT ha]; simp⟩
  ·have : i = m.2.2.1.length := by omega
   subst this;have h0 : decide ((m.2.2.1.length : Int) < (m.2.2.1.length : Int)) = false := by simp
   simp only [h0, cond_false];rw [qdC, List.take_length]
 rw [k2.eq];rfl
theorem qsM {α : Type} (g : Nat -> α -> Int) : ∀ (l : List α) (k : Nat), qbl (fun i a => if g i a = 0 then none else some (g i a)) k l = if (qaJ g k l).2 = 0 then none else some (qaJ g k l).2
 | [], k => rfl
 | a :: l, k => by
  simp only [qbl, qaJ];by_cases h : g k a = 0
  ·simp only [h, if_true]; exact qsM g l (k + 1)
  ·simp [h]
theorem qpb {α σ : Type} (l : List α) (g : Nat -> α -> Int) (J : Nat -> σ -> Prop) (K : Int × σ -> Option ((Int × σ) ⊕ (σ ⊕ (Int × Int × σ)))) (s0 : σ) (h0 : J 0 s0)
  (h : ∀ (i : Nat) a s, l[i]? = some a -> J i s -> ∃ s', J (i + 1) s' /\ K ((i : Int), s) = some (if g i a = 0 then .inl ((i : Int) + 1, s') else .inr (.inr ((i : Int), g i a, s')))) :
  Ok ((qU (fun s => bif decide (s.1 < (l.length : Int)) then K s else some (.inr (.inl s.2))) (0, s0)).bind (Sum.elim (fun p => some (0, 0, p)) some)) (fun r => (r.1, r.2.1) = qaJ g 0 l) := by
 rw [qyE];refine (qfJ l.length (fun i (s : Int × σ) => s.1 = (i : Int) /\ J i s.2 /\ (qaJ g 0 (l.take i)).2 = 0)
  (fun r : σ ⊕ (Int × Int × σ) => match r with
   | .inl _ => (qaJ g 0 l) = (0, 0)
   | .inr q => (q.1, q.2.1) = qaJ g 0 l) ⟨rfl, h0, rfl⟩ ?_).mono ?_
 ·rintro i ⟨i0, s⟩ hi ⟨e1, e2, e3⟩;simp only at e1 e2;subst e1;by_cases hlt : i < l.length
  ·have h0 : decide ((i : Int) < (l.length : Int)) = true := by simp <;> omega
   obtain ⟨a, ha⟩ : ∃ a, l[i]? = some a := ⟨_, List.getElem?_eq_getElem hlt⟩
   simp only [h0, cond_true];obtain ⟨s', hJ, hK⟩ := h i a s ha e2;rw [hK];by_cases hg : g i a = 0
   ·rw [if_pos hg, qeA];exact ⟨hlt, by simp, hJ, by rw [qtC ha, if_pos e3, hg]⟩
   ·rw [if_neg hg, qdC];exact (qvv ha e3 hg).symm
  ·have : i = l.length := by omega
   subst this;have h0 : decide ((l.length : Int) < (l.length : Int)) = false := by simp
   simp only [h0, cond_false];rw [qdC];rw [List.take_length] at e3;exact qoo e3
 ·intro r hr;cases r with
  | inl p => simp only at hr ⊢; rw [qmZ]; exact hr.symm
  | inr q => exact hr
def ixE (f : Int) (l : List Int) (i : Nat) (n : Int) : Int := if 0 <= n /\ n <= f - 1 then (if 0 < i /\ n <= l.getD (i - 1) 0 then 9 else 0) else 6
def quc (f : Int) (l : List Int) : Int := (qaJ (ixE f l) 0 l).2
theorem qiv (l : List Int) (f : Int) (hl : l.length <= 1000) (hf : 0 <= f /\ f <= 1000) : qaX l f = some (quc f l) := by
 unfold qaX;have key := qpb l (ixE f l) (fun i (p : Int) => p = if i = 0 then -1 else l.getD (i - 1) 0) (fun (s2 : Int × Int) => (idx l s2.1).bind fun x3 =>
     (qn x3 (0 : Int) (w64 (f - 1))).bind fun x4 =>
     (qm x4 (6 : Int)).bind fun x5 =>
     (qm (decide (x3 > s2.2)) (9 : Int)).bind fun x6 =>
     (qx ([x5, x6])).bind fun x7 =>
     bif !(decide (x7 = 0)) then
      some (.inr (.inr (s2.1, x7, x3)))
     else
      some (.inl (w64 (s2.1 + 1), x3))) (-1) rfl (by
  rintro i a p ha rfl;have hlt := qaE ha;refine ⟨a, by simp [ha], ?_⟩;rw [wq (by omega) (by omega), qaf ha];simp only [qa, wit, unl];rw [qyh _ (by simp)];simp only [qa];rw [wq (by omega) (by omega)];unfold ixE;by_cases c1 : 0 <= a /\ a <= f - 1
  ·by_cases c2 : i = 0
   ·subst c2;have c3 : a > -1 := by omega
    simp [c1, c3, qiz]
   ·have c4 : 0 < i := by omega
    by_cases c3 : a <= l.getD (i - 1) 0
    ·have c3' : ¬ a > l.getD (i - 1) 0 := by omega
     simp only [c1, c2, c3, c3', c4, and_self, decide_true, decide_false, if_true, if_false, qf, qiz];rfl
    ·have c3' : a > l.getD (i - 1) 0 := by omega
     simp only [c1, c2, c3, c3', c4, and_self, and_false, decide_true, decide_false, if_true, if_false, qf, qiz];rfl
  ·simp only [c1, decide_false, if_false, qf, qiz];rfl)
 obtain ⟨r, h1, h2⟩ := key;rw [h1];simp only [qa];unfold quc;rw [<- h2]
theorem qiB (l : List Int) (f : Int) (hl : l.length <= 1000) (hf : 0 <= f /\ f <= 1000) : qbk l f = some (quc f l) := by
 unfold qbk;rw [qaH l _ (fun i n => if ixE f l i n = 0 then none else some (ixE f l i n)) (fun i a hi => by
  have hlt := qaE hi;rw [qaf hi];simp only [qa, Wit];rw [wq (n := f - 1) (by omega) (by omega)];unfold ixE;by_cases c1 : 0 <= a /\ a <= f - 1
  ·by_cases c2 : 0 < i
   ·have c2' : (i : Int) > 0 := by omega
    have e1 : ((i : Int) - 1) = ((i - 1 : Nat) : Int) := by omega
    obtain ⟨b, hb⟩ : ∃ b, l[i - 1]? = some b := ⟨_, List.getElem?_eq_getElem (by omega)⟩
    rw [wq (n := (i : Int) - 1) (by omega) (by omega), e1, qaf hb, qaT hb];by_cases c3 : a <= b
    ·simp [c1, c2, c2', c3, stp]
    ·simp only [c1, c2, c2', c3, and_self, and_false, decide_true, decide_false, Bool.not_true, cond_false, cond_true, qa, if_true, if_false, stp];rw [wq (by omega) (by omega)]
   ·have c2' : ¬ (i : Int) > 0 := by omega
    simp only [c1, c2, c2', and_self, false_and, decide_true, decide_false, Bool.not_true, cond_false, cond_true, qa, if_true, if_false, stp];rw [wq (by omega) (by omega)]
  ·simp [c1, stp]), q7, qsM]
 unfold quc;by_cases h : (qaJ (ixE f l) 0 l).2 = 0 <;> simp [h]
def tsE (f : Int) (t : Ts) : Int := if quc f t.1 = 0 then (if quc f t.2.1 = 0 then (if ∃ x ∈ t.1, x ∈ t.2.1 then 13 else 0) else quc f t.2.1) else quc f t.1
theorem qpM (l : List Int) (x : Int) (hl : l.length <= 1000000000) : qad l x = some (decide (x ∈ l)) := by
 unfold qad qbz;rw [qaH l _ (fun i n => if x = n then some (i : Int) else none) (fun i a hi => by
  have := qaE hi;rw [qaf hi];simp only [qa];by_cases h : x = a
  ·simp only [h, decide_true, cond_true, if_true, stp]
  ·simp only [h, decide_false, cond_false, if_false, stp]; rw [wq (by omega) (by omega)]), q7]
 cases hf : qbl (fun i n => if x = n then some (i : Int) else none) 0 l with
 | none =>
  have : x ∉ l := fun h => by
   obtain ⟨i, hi⟩ := List.mem_iff_getElem?.1 h;have := qbC.1 hf i x hi;simp at this
  simp [this]
 | some r =>
  obtain ⟨i, a, h1, h2, _⟩ := qaC hf;by_cases h : x = a
  ·subst h;simp only [if_true, qb] at h2;have : x ∈ l := List.mem_of_getElem? h1;have h3 : r >= 0 := by omega
   simp [this, h3]
  ·simp [h] at h2
theorem qjH (t : Ts) (f : Int) (h : shT t) (hf : 0 <= f /\ f <= 1000) : qat t f = some (tsE f t) := by
 obtain ⟨h1, h2⟩ := h;unfold qat;have key := qvY t.1 (fun x => qad t.2.1 x) (fun x => decide (x ∈ t.2.1)) (fun x _ => qpM _ _ (by omega)) (by omega);obtain ⟨p, e1, e2⟩ := qd.1 key;rw [e1];simp only [qa];rw [qiv _ _ (by omega) hf, qiv _ _ (by omega) hf];simp only [qa, unl];rw [Option.some.inj e2, qyh _ (by simp)];simp only [qa];unfold tsE;by_cases c1 : quc f t.1 = 0
 ·by_cases c2 : quc f t.2.1 = 0
  ·by_cases c3 : ∃ x ∈ t.1, x ∈ t.2.1
   ·simp [c1, c2, c3, qiz]
   ·simp [c1, c2, c3, qiz]
  ·simp [c1, c2, qiz]
 ·simp [c1, qiz]
theorem qjX (t : Ts) (f : Int) (h : shT t) (hf : 0 <= f /\ f <= 1000) : qbI t f = some (tsE f t) := by
 obtain ⟨h1, h2⟩ := h;unfold qbI;rw [qiB _ _ (by omega) hf, qiB _ _ (by omega) hf];simp only [qa];unfold tsE;by_cases c1 : quc f t.1 = 0
 ·by_cases c2 : quc f t.2.1 = 0
  ·simp only [c1, c2, decide_true, Bool.not_true, cond_false, if_true];rw [qg6 t.1.length _ (fun j => ∃ x, t.1[j]? = some x /\ x ∈ t.2.1) (13 : Int) (∃ x ∈ t.1, x ∈ t.2.1) (by
    constructor
    ·rintro ⟨x, hx, hm⟩;obtain ⟨j, hj⟩ := List.mem_iff_getElem?.1 hx;exact ⟨j, qaE hj, x, hj, hm⟩
    ·rintro ⟨j, _, x, hj, hm⟩;exact ⟨x, List.mem_of_getElem? hj, hm⟩) (fun i hi => by
    obtain ⟨a, ha⟩ : ∃ a, t.1[i]? = some a := ⟨_, List.getElem?_eq_getElem hi⟩
    rw [qaf ha];simp only [qa];rw [qvE _ _ (by omega)];simp only [qa];by_cases c : a ∈ t.2.1
    ·simp [c, ha]
    ·simp only [c, decide_false, cond_false, ha, qb, exists_eq_left', if_false];rw [wq (by omega) (by omega)])]
   by_cases c3 : ∃ x ∈ t.1, x ∈ t.2.1
   ·rw [if_pos c3, if_pos c3]; rfl
   ·rw [if_neg c3, if_neg c3]; rfl
  ·simp [c1, c2]
 ·simp [c1]
def nmE (l : List Nm) (i : Nat) (s : Nm) : Int := if isN s = true then (if s ∈ l.take i then 5 else 0) else 4
def acE (m : Mc) (i : Nat) (a : Ac) : Int :=
 if isN a.1 = true then (if a.1 ∈ (m.2.1.take i).map (·.1) then 5 else if tsE m.1.length (qcS a) = 0 then tsE m.1.length (dos a) else tsE m.1.length (qcS a)) else 4
def hmE (m : Mc) (_ : Nat) (t : Ts) : Int := tsE m.1.length t
def qhB (m : Mc) : Int × Int :=
 if (m.1.length : Int) > 0 then (if (m.1.length : Int) <= 8 /\ (m.2.1.length : Int) <= 10 /\ (m.2.2.1.length : Int) <= 4 then
  (if (qaJ (nmE m.1) 0 m.1).2 = 0 then (if (qaJ (acE m) 0 m.2.1).2 = 0 then qaJ (hmE m) 0 m.2.2.1 else qaJ (acE m) 0 m.2.1) else qaJ (nmE m.1) 0 m.1) else (0, 8)) else (0, 10)
theorem qm0 {m : Mc} (hb : MB m) : qa7 m = some (qhB m) := by
 have h1 := hb.fl; have h2 := hb.ac; have h3 := hb.hm;unfold qa7 qhB;have c0 : (bif decide ((m.1.length : Int) <= 8) then bif decide ((m.2.1.length : Int) <= 10) then some (decide ((m.2.2.1.length : Int) <= 4)) else some false else some false)
   = some (decide ((m.1.length : Int) <= 8 /\ (m.2.1.length : Int) <= 10 /\ (m.2.2.1.length : Int) <= 4)) := by
  by_cases a1 : (m.1.length : Int) <= 8 <;> by_cases a2 : (m.2.1.length : Int) <= 10 <;> simp [a1, a2]
 rw [c0];simp only [unl, qa];rw [qyh _ (by simp)];simp only [qa];by_cases g1 : (m.1.length : Int) > 0
 ·by_cases g2 : (m.1.length : Int) <= 8 /\ (m.2.1.length : Int) <= 10 /\ (m.2.2.1.length : Int) <= 4
  ·rw [if_pos g1, if_pos g2, decide_eq_true g1, decide_eq_true g2];simp only [if_true, qiz, decide_true, Bool.not_true, cond_false];obtain ⟨r1, e1, q1⟩ := qpb m.1 (nmE m.1) (fun i (kn : List Nm) => ∀ r, r ∈ kn ↔ r ∈ m.1.take i) (fun s6 => (idx m.1 s6.1).bind fun x7 =>
      (qbh x7).bind fun x8 =>
      (qx ([if x8 = true then 0 else 4, if (!(qgj .str s6.2 x7)) = true then 0 else 5])).bind fun x11 =>
      bif !(decide (x11 = 0)) then
       some (.inr (.inr (s6.1, x11, qkq .str s6.2 x7)))
      else
       some (.inl (w64 (s6.1 + 1), qkq .str s6.2 x7))) [] (by simp) (by
    intro i a kn ha hk;have hlt := qaE ha;refine ⟨qkq .str kn a, fun r => by rw [qsu, hk, qb7 a hlt, qaT ha]; simp, ?_⟩;rw [qaf ha];simp only [qa];rw [qpY a (by have := hb.fn a (List.mem_of_getElem? ha); omega), qAd];simp only [qa];rw [qyh _ (by simp)];simp only [qa];rw [wq (by omega) (by omega)];unfold nmE;by_cases a3 : isN a = true
    ·by_cases a4 : a ∈ m.1.take i
     ·have : a ∈ kn := (hk a).2 a4;simp [a3, a4, this, qiz]
     ·have : a ∉ kn := fun h => a4 ((hk a).1 h);simp [a3, a4, this, qiz]
    ·simp [a3, qiz])
   rw [e1];simp only [qa];by_cases E1 : (qaJ (nmE m.1) 0 m.1).2 = 0
   ·have E1' : r1.2.1 = 0 := by rw [<- q1] at E1; exact E1
    rw [if_pos E1];simp only [E1', decide_true, Bool.not_true, cond_false];obtain ⟨r2, e2, q2⟩ := qpb m.2.1 (acE m) (fun i (kn : List Nm) => ∀ r, r ∈ kn ↔ r ∈ (m.2.1.take i).map (·.1)) (fun s15 => (idx m.2.1 s15.1).bind fun x16 =>
       (qbh x16.1).bind fun x17 =>
       (qx ([if x17 = true then 0 else 4, if (!(qgj .str s15.2 x16.1)) = true then 0 else 5])).bind fun x20 =>
       (qat (x16.2.1, x16.2.2.1, ()) (m.1.length : Int)).bind fun x21 =>
       (qat (x16.2.2.2.1, x16.2.2.2.2.1, ()) (m.1.length : Int)).bind fun x22 =>
       (qx ([x20, x21, x22])).bind fun x23 =>
       bif !(decide (x23 = 0)) then
        some (.inr (.inr (s15.1, x23, qkq .str s15.2 x16.1)))
       else
        some (.inl (w64 (s15.1 + 1), qkq .str s15.2 x16.1))) [] (by simp) (by
     intro i a kn ha hk;have hlt := qaE ha;refine ⟨qkq .str kn a.1, fun r => by rw [qsu, hk, qb7 a hlt, qaT ha]; simp, ?_⟩;rw [qaf ha];simp only [qa];obtain ⟨b0, b1, b2⟩ := hb.an a (List.mem_of_getElem? ha);rw [qpY a.1 (by omega), qAd];simp only [qa];rw [qyh _ (by simp)];simp only [qa];rw [qjH (qcS a) _ b1 (by omega), qjH (dos a) _ b2 (by omega)];simp only [qa];rw [qyh _ (by simp)];simp only [qa];rw [wq (by omega) (by omega)];unfold acE;by_cases a3 : isN a.1 = true
     ·by_cases a4 : a.1 ∈ (m.2.1.take i).map (·.1)
      ·have : a.1 ∈ kn := (hk a.1).2 a4;simp only [a3, a4, this, decide_true, Bool.not_true, qf, if_true, if_false, qiz];rfl
      ·have : a.1 ∉ kn := fun h => a4 ((hk a.1).1 h);simp only [a3, a4, this, decide_false, Bool.not_false, if_true, if_false, qiz];by_cases a5 : tsE m.1.length (qcS a) = 0
       ·by_cases a6 : tsE m.1.length (dos a) = 0
        ·simp [a5, a6]
        ·simp [a5, a6]
       ·simp [a5]
     ·simp [a3, qiz])
    rw [e2];simp only [qa];by_cases E2 : (qaJ (acE m) 0 m.2.1).2 = 0
    ·have E2' : r2.2.1 = 0 := by rw [<- q2] at E2; exact E2
     rw [if_pos E2];simp only [E2', decide_true, Bool.not_true, cond_false];have e3 := qso m.2.2.1 (fun _ t => qat t (m.1.length : Int)) (hmE m) (fun i a ha => qjH a _ (hb.ht a (List.mem_of_getElem? ha)) (by omega)) (by omega);rw [e3];rfl
    ·have E2' : r2.2.1 ≠ 0 := by rw [<- q2] at E2; exact E2
     rw [if_neg E2];simp only [E2', decide_false, Bool.not_false, cond_true];rw [q2]
   ·have E1' : r1.2.1 ≠ 0 := by rw [<- q1] at E1; exact E1
    rw [if_neg E1];simp only [E1', decide_false, Bool.not_false, cond_true];rw [q1]
  ·rw [if_pos g1, if_neg g2, decide_eq_true g1, decide_eq_false g2];rfl
 ·rw [if_neg g1, decide_eq_false g1];rfl
theorem qmI {m : Mc} (hb : MB m) : qbo m = some (qhB m) := by
 have h1 := hb.fl; have h2 := hb.ac; have h3 := hb.hm;unfold qbo qhB;by_cases g1 : (m.1.length : Int) > 0
 ·have g1' : ¬ (m.1.length : Int) = 0 := by omega
  rw [if_pos g1, decide_eq_false g1'];simp only [cond_false];by_cases g2 : (m.1.length : Int) <= 8 /\ (m.2.1.length : Int) <= 10 /\ (m.2.2.1.length : Int) <= 4
  ·obtain ⟨a1, a2, a3⟩ := g2;have a1' : ¬ (m.1.length : Int) > 8 := by omega
   have a2' : ¬ (m.2.1.length : Int) > 10 := by omega
   have a3' : ¬ (m.2.2.1.length : Int) > 4 := by omega
   rw [if_pos ⟨a1, a2, a3⟩];simp only [a1', a2', a3', decide_false, cond_false, qa];rw [qaH m.1 _ (fun i s => if nmE m.1 i s = 0 then none else some ((i : Int), nmE m.1 i s)) (fun i a hi => by
    have hlt := qaE hi;rw [qaf hi];simp only [qa];rw [qpU];simp only [qa];unfold nmE;by_cases c1 : isN a = true
    ·rw [qzE (by omega)];simp only [qa, Int.toNat_natCast, Int.toNat_zero, List.drop_zero, c1, Bool.not_true, cond_false, if_true];rw [qt3 _ _ (by simp; omega)];simp only [qa];by_cases c2 : a ∈ m.1.take i
     ·simp [c2, stp]
     ·simp only [c2, decide_false, cond_false, if_false, if_true, stp]; rw [wq (by omega) (by omega)]
    ·simp [c1, stp]), q7]
   have f1 := qcW (nmE m.1) m.1 0;cases hf1 : qbl (fun i s => if nmE m.1 i s = 0 then none else some ((i : Int), nmE m.1 i s)) 0 m.1 with
   | some r =>
    rw [hf1] at f1;simp only at f1;have hr : r.2 ≠ 0 := by
     obtain ⟨i, a, _, h2, _⟩ := qaC hf1;split at h2
     ·cases h2
     ·rename_i h; cases h2; exact h
    simp only
    rw [f1, if_neg (by rw [<- Option.some.inj f1]; exact hr)]
   | none =>
    rw [hf1] at f1;simp only at f1 ⊢;rw [if_pos (by rw [<- Option.some.inj f1])];rw [qaH m.2.1 _ (fun i s => if acE m i s = 0 then none else some ((i : Int), acE m i s)) (fun i a hi => by
     have hlt := qaE hi;obtain ⟨b0, b1, b2⟩ := hb.an a (List.mem_of_getElem? hi);rw [qaf hi];simp only [qa];rw [qpU];simp only [qa];unfold acE;by_cases c1 : isN a.1 = true
     ·simp only [c1, Bool.not_true, cond_false, if_true];rw [qg6 i _ (fun j => ∃ x, m.2.1[j]? = some x /\ x.1 = a.1) (.inr (.inr ((i : Int), 5)) : Int ⊕ (Unit ⊕ (Int × Int))) (a.1 ∈ (m.2.1.take i).map (·.1)) (by
       rw [List.mem_map];constructor
       ·rintro ⟨x, hx, e⟩;obtain ⟨j, hj, hx⟩ := qfS.1 hx;exact ⟨j, hj, x, hx, e⟩
       ·rintro ⟨j, hj, x, hx, e⟩;exact ⟨x, qfS.2 ⟨j, hj, hx⟩, e⟩) (fun j hj => by
       obtain ⟨x, hx⟩ : ∃ x, m.2.1[j]? = some x := ⟨_, List.getElem?_eq_getElem (by omega)⟩
       rw [qaf hx];simp only [qa];by_cases c : x.1 = a.1
       ·simp [c, hx]
       ·simp only [c, decide_false, cond_false, hx, qb, exists_eq_left', if_false];rw [wq (by omega) (by omega)])]
      by_cases c2 : a.1 ∈ (m.2.1.take i).map (·.1)
      ·rw [if_pos c2, if_pos c2]; rfl
      ·rw [if_neg c2, if_neg c2];simp only [qa, Sum.elim_inl];rw [qjX (qcS a) _ b1 (by omega), qjX (dos a) _ b2 (by omega)];simp only [qa];by_cases c3 : tsE m.1.length (qcS a) = 0
       ·by_cases c4 : tsE m.1.length (dos a) = 0
        ·simp only [c3, c4, decide_true, Bool.not_true, cond_false, if_true, stp]; rw [wq (by omega) (by omega)]
        ·simp [c3, c4, stp]
       ·simp [c3, stp]
     ·simp [c1, stp]), q7]
    have f2 := qcW (acE m) m.2.1 0;cases hf2 : qbl (fun i s => if acE m i s = 0 then none else some ((i : Int), acE m i s)) 0 m.2.1 with
    | some r =>
     rw [hf2] at f2;simp only at f2;have hr : r.2 ≠ 0 := by
      obtain ⟨i, a, _, h2, _⟩ := qaC hf2;split at h2
      ·cases h2
      ·rename_i h; cases h2; exact h
     simp only
     rw [f2, if_neg (by rw [<- Option.some.inj f2]; exact hr)]
    | none =>
     rw [hf2] at f2;simp only at f2 ⊢;rw [if_pos (by rw [<- Option.some.inj f2])];rw [qaH m.2.2.1 _ (fun i s => if hmE m i s = 0 then none else some ((i : Int), hmE m i s)) (fun i a hi => by
      have hlt := qaE hi;rw [qaf hi];simp only [qa];rw [qjX a _ (hb.ht a (List.mem_of_getElem? hi)) (by omega)];simp only [qa];unfold hmE;by_cases c3 : tsE m.1.length a = 0
      ·simp only [c3, decide_true, Bool.not_true, cond_false, if_true, stp]; rw [wq (by omega) (by omega)]
      ·simp [c3, stp]), q7]
     rw [<- qcW (hmE m) m.2.2.1 0];cases qbl (fun i s => if hmE m i s = 0 then none else some ((i : Int), hmE m i s)) 0 m.2.2.1 <;> rfl
  ·rw [if_neg g2];have key : (bif decide ((m.1.length : Int) > 8) then some true else bif decide ((m.2.1.length : Int) > 10) then some true else some (decide ((m.2.2.1.length : Int) > 4))) = some true := by
    by_cases a1 : (m.1.length : Int) > 8
    ·simp [a1]
    ·by_cases a2 : (m.2.1.length : Int) > 10
     ·simp [a1, a2]
     ·have a3 : (m.2.2.1.length : Int) > 4 := by
       rw [not_and, not_and] at g2;have := g2 (by omega) (by omega);omega
      simp [a1, a2, a3]
   rw [key]; rfl
 ·have g1' : (m.1.length : Int) = 0 := by omega
  rw [if_neg g1, decide_eq_true g1']; rfl
theorem qoy {m : Mc} (hb : MB m) : qcd m = some (qhB m).2 := by
 unfold qcd;rw [qmI hb]; rfl
end Go.Proofs.YtkcaaaiihhhnmaaGreat
end
section
namespace Go.Proofs.YtkcaaaiihhhnmaaGreat
open Go Go.Ab Go.Tx
theorem qfq {a : Nat} (h : a < 9223372036854775808) : (BitVec.ofInt 64 (a : Int)).toNat = a := by
 rw [BitVec.ofInt_natCast, BitVec.toNat_ofNat, Nat.mod_eq_of_lt (by omega)]
theorem qld {a b : Nat} (ha : a < 9223372036854775808) (hb : b < 9223372036854775808) : qra .i64 (a : Int) (b : Int) = ((a &&& b : Nat) : Int) := by
 unfold qra;have e : (BitVec.ofInt 64 (a : Int) &&& BitVec.ofInt 64 (b : Int)).toNat = a &&& b := by rw [BitVec.toNat_and, qfq ha, qfq hb]
 show IntKind.wrap .i64 ((BitVec.ofInt 64 (a : Int) &&& BitVec.ofInt 64 (b : Int)).toNat : Int) = _;rw [e];have h := Nat.and_le_left (n := a) (m := b);exact qgO (by omega) (by omega)
theorem qrS {a b : Nat} (ha : a < 2 ^ 62) (hb : b < 2 ^ 62) : orI .i64 (a : Int) (b : Int) = ((a ||| b : Nat) : Int) := by
 unfold orI;have e : (BitVec.ofInt 64 (a : Int) ||| BitVec.ofInt 64 (b : Int)).toNat = a ||| b := by rw [BitVec.toNat_or, qfq (by omega), qfq (by omega)]
 show IntKind.wrap .i64 ((BitVec.ofInt 64 (a : Int) ||| BitVec.ofInt 64 (b : Int)).toNat : Int) = _;rw [e];have h := Nat.or_lt_two_pow ha hb;exact qgO (by omega) (by omega)
def qyp (a b : Nat) : Nat := a &&& (2 ^ 64 - (b + 1))
theorem qrz {a b : Nat} (ha : a < 2 ^ 62) (hb : b < 2 ^ 62) : qim .i64 (a : Int) (b : Int) = ((qyp a b : Nat) : Int) := by
 unfold qim;have e : (BitVec.ofInt 64 (a : Int) &&& ~~~ BitVec.ofInt 64 (b : Int)).toNat = qyp a b := by
  rw [BitVec.toNat_and, BitVec.toNat_not, qfq (by omega), qfq (by omega)];unfold qyp;congr 1
  omega
 show IntKind.wrap .i64 ((BitVec.ofInt 64 (a : Int) &&& ~~~ BitVec.ofInt 64 (b : Int)).toNat : Int) = _;rw [e];have h := Nat.and_le_left (n := a) (m := 2 ^ 64 - (b + 1));unfold qyp;exact qgO (by omega) (by omega)
theorem qwz {a b k : Nat} (ha : a < 2 ^ 62) (hb : b < 2 ^ 62) : (qyp a b).testBit k = (a.testBit k && !b.testBit k) := by
 unfold qyp;rw [Nat.testBit_and, Nat.testBit_two_pow_sub_succ (by omega)];by_cases h : k < 64
 ·simp [h]
 ·have : a.testBit k = false := Nat.testBit_lt_two_pow (Nat.lt_of_lt_of_le ha (Nat.pow_le_pow_right (by omega) (by omega)));simp [h, this]
theorem qhu {x : Int} (h0 : 0 <= x) (h1 : x < 62) : qtv .i64 1 x = some ((2 ^ x.toNat : Nat) : Int) := by
 unfold qtv;rw [if_pos h0];have e : min x.toNat (IntKind.bits .i64) = x.toNat := by
  show min x.toNat 64 = x.toNat;omega
 rw [e, Int.one_mul];have h2 : 2 ^ x.toNat < 2 ^ 62 := Nat.pow_lt_pow_right (by omega) (by omega);have h3 : ((2 : Int) ^ x.toNat) = ((2 ^ x.toNat : Nat) : Int) := by simp
 rw [h3];generalize 2 ^ x.toNat = p at h2 ⊢;exact congrArg some (qgO (by omega) (by omega))
theorem qk9 {a : Nat} {x : Int} (h0 : 0 <= x) (h1 : x < 62) : qq8 .i64 (a : Int) x = some ((a / 2 ^ x.toNat : Nat) : Int) := by
 unfold qq8;rw [if_pos h0];have e : min x.toNat (IntKind.bits .i64) = x.toNat := by
  show min x.toNat 64 = x.toNat;omega
 rw [e];have h3 : ((2 : Int) ^ x.toNat) = ((2 ^ x.toNat : Nat) : Int) := by simp
 rw [h3];generalize 2 ^ x.toNat = p;rw [Int.fdiv_eq_ediv_of_nonneg _ (by omega)]
 norm_cast
theorem qr8 {a k : Nat} (ha : a < 9223372036854775808) : qra .i64 ((a / 2 ^ k : Nat) : Int) 1 = if a.testBit k = true then 1 else 0 := by
 have h := qld (a := a / 2 ^ k) (b := 1) (Nat.lt_of_le_of_lt (Nat.div_le_self ..) ha) (by omega);rw [show ((1 : Nat) : Int) = 1 from rfl] at h;rw [h, Nat.and_one_is_mod, Nat.testBit_eq_decide_div_mod_eq];by_cases c : a / 2 ^ k % 2 = 1
 ·rw [c]; simp
 ·have : a / 2 ^ k % 2 = 0 := by omega
  rw [this]; simp
def qdP (l : List Int) : Nat := l.foldl (fun a x => a ||| 2 ^ x.toNat) 0
theorem qle (l : List Int) (h : ∀ x ∈ l, 0 <= x) (k : Nat) : ∀ a : Nat, (l.foldl (fun a x => a ||| 2 ^ x.toNat) a).testBit k = (a.testBit k || decide ((k : Int) ∈ l)) := by
 induction l with
 | nil => simp
 | cons x l ih =>
  intro a;rw [List.foldl_cons, ih (fun y hy => h y (by simp [hy])), Nat.testBit_or, Nat.testBit_two_pow];have := h x (by simp);by_cases e : x = (k : Int)
  ·subst e; simp
  ·have e' : x.toNat ≠ k := by omega
   have e'' : (k : Int) ≠ x := fun h => e h.symm;simp [e', e'']
theorem qga {l : List Int} (h : ∀ x ∈ l, 0 <= x) (k : Nat) : (qdP l).testBit k = decide ((k : Int) ∈ l) := by
 unfold qdP; rw [qle l h k]; simp
theorem qy4 {l : List Int} {f : Nat} (h : ∀ x ∈ l, 0 <= x /\ x < f) : qdP l < 2 ^ f := by
 refine Nat.lt_pow_two_of_testBit _ fun k hk => ?_;rw [qga fun x hx => (h x hx).1];simp only [decide_eq_false_iff_not];intro hm;have := (h _ hm).2;omega
def qx1 (l : List Int) : Prop := ∀ x ∈ l, 0 <= x /\ x < 8
theorem qmd {l : List Int} (h : qx1 l) : qdP l < 256 := by
 have := qy4 (f := 8) h;omega
theorem of_eq {l : List Int} (h : qx1 l) (hl : l.length <= 1000) : qgp l = some ((qdP l : Nat) : Int) := by
 unfold qgp;have key : Ok (qU (fun (s2 : (Int × Int)) =>
   bif decide (s2.2 < (l.length : Int)) then
    (idx l s2.2).bind fun x3 =>
    (qtv .i64 (1 : Int) x3).bind fun x4 =>
    some (.inl (orI .i64 s2.1 x4, w64 (s2.2 + 1)))
   else
    some (.inr s2.1)) (0, 0)) (fun r => r = ((qdP l : Nat) : Int)) := by
  refine qfJ l.length (fun i (s : Int × Int) => s = (((qdP (l.take i) : Nat) : Int), (i : Int))) _ (by simp [qdP]) ?_;rintro i s hi rfl;by_cases hlt : i < l.length
  ·obtain ⟨a, ha⟩ : ∃ a, l[i]? = some a := ⟨_, List.getElem?_eq_getElem hlt⟩
   have h0 : decide ((i : Int) < (l.length : Int)) = true := by simp <;> omega
   obtain ⟨b1, b2⟩ := h a (List.mem_of_getElem? ha);simp only [h0, cond_true, qaf ha, qa];rw [qhu b1 (by omega)];simp only [qa];have c1 : qdP (l.take i) < 256 := qmd fun x hx => h x (List.mem_of_mem_take hx);have c2 : 2 ^ a.toNat < 2 ^ 62 := Nat.pow_lt_pow_right (by omega) (by omega);rw [qrS (by omega) c2, wq (by omega) (by omega), qeA];refine ⟨hlt, ?_⟩;rw [qb7 a hlt, qaT ha];unfold qdP;rw [List.foldl_append];simp
  ·have : i = l.length := by omega
   subst this;have h0 : decide ((l.length : Int) < (l.length : Int)) = false := by simp
   simp only [h0, cond_false];rw [qdC, List.take_length]
 rw [key.eq]; rfl
def qxF (t : Ts) : Prop := qx1 t.1 /\ qx1 t.2.1 /\ shT t
abbrev Bt := Int × Int × Unit
def bt (t : Ts) : Bt := (((qdP t.1 : Nat) : Int), ((qdP t.2.1 : Nat) : Int), ())
def hold (t : Ts) (s : Nat) : Bool := (t.1.all fun x => s.testBit x.toNat) && (t.2.1.all fun x => !s.testBit x.toNat)
def qsk (t : Ts) (s : Nat) : Nat := qyp (s ||| qdP t.1) (qdP t.2.1)
theorem qjI {t : Ts} (h : qxF t) : qaw t = some (bt t) := by
 obtain ⟨h1, h2, h3, h4⟩ := h;unfold qaw;rw [of_eq h1 (by omega), of_eq h2 (by omega)]; rfl
theorem qxf {l : List Int} (h : qx1 l) (s : Nat) : s &&& qdP l = qdP l ↔ ∀ x ∈ l, s.testBit x.toNat = true := by
 constructor
 ·intro e x hx;have h0 := (h x hx).1;have : (s &&& qdP l).testBit x.toNat = true := by
   rw [e, qga fun x hx => (h x hx).1];have : ((x.toNat : Nat) : Int) = x := by omega
   rw [this]; simp [hx]
  rw [Nat.testBit_and] at this;simp only [qe] at this;exact this.1
 ·intro hs;refine Nat.eq_of_testBit_eq fun k => ?_;rw [Nat.testBit_and, qga fun x hx => (h x hx).1];by_cases hk : (k : Int) ∈ l
  ·have := hs _ hk;rw [Int.toNat_natCast] at this;simp [hk, this]
  ·simp [hk]
theorem qwX {l : List Int} (h : qx1 l) (s : Nat) : s &&& qdP l = 0 ↔ ∀ x ∈ l, s.testBit x.toNat = false := by
 constructor
 ·intro e x hx;have h0 := (h x hx).1;have : (s &&& qdP l).testBit x.toNat = false := by rw [e]; simp
  rw [Nat.testBit_and, qga fun x hx => (h x hx).1] at this;have e2 : ((x.toNat : Nat) : Int) = x := by omega
  rw [e2] at this;simpa [hx] using this
 ·intro hs;refine Nat.eq_of_testBit_eq fun k => ?_;rw [Nat.testBit_and, qga fun x hx => (h x hx).1];by_cases hk : (k : Int) ∈ l
  ·have := hs _ hk;rw [Int.toNat_natCast] at this;simp [this]
  ·simp [hk]
theorem qlc {t : Ts} (h : qxF t) {s : Nat} (hs : s < 256) : qar (bt t) (s : Int) = some (hold t s) := by
 obtain ⟨h1, h2, _⟩ := h;have b1 := qmd h1;have b2 := qmd h2;unfold qar bt hold;simp only
 rw [qld (by omega) (by omega), qld (by omega) (by omega)];have e1 : (((s &&& qdP t.1 : Nat) : Int) = ((qdP t.1 : Nat) : Int)) ↔ ∀ x ∈ t.1, s.testBit x.toNat = true := by
  rw [<- qxf h1]; omega
 have e2 : (((s &&& qdP t.2.1 : Nat) : Int) = 0) ↔ ∀ x ∈ t.2.1, s.testBit x.toNat = false := by
  rw [<- qwX h2]; omega
 have f1 : (t.1.all fun x => s.testBit x.toNat) = decide (∀ x ∈ t.1, s.testBit x.toNat = true) := by
  rw [Bool.eq_iff_iff]; simp
 have f2 : (t.2.1.all fun x => !s.testBit x.toNat) = decide (∀ x ∈ t.2.1, s.testBit x.toNat = false) := by
  rw [Bool.eq_iff_iff]; simp
 rw [f1, f2];by_cases c1 : ∀ x ∈ t.1, s.testBit x.toNat = true
 ·rw [decide_eq_true (e1.2 c1), decide_eq_true c1];simp only [cond_true, Bool.true_and, qa];by_cases c2 : ∀ x ∈ t.2.1, s.testBit x.toNat = false
  ·rw [decide_eq_true (e2.2 c2), decide_eq_true c2]
  ·rw [decide_eq_false fun e => c2 (e2.1 e), decide_eq_false c2]
 ·rw [decide_eq_false fun e => c1 (e1.1 e), decide_eq_false c1];rfl
theorem qyD {t : Ts} (h : qxF t) {s : Nat} (hs : s < 256) : qbj (bt t) (s : Int) = some ((qsk t s : Nat) : Int) := by
 obtain ⟨h1, h2, _⟩ := h;have b1 := qmd h1;have b2 := qmd h2;unfold qbj bt qsk;simp only
 have b3 : s ||| qdP t.1 < 2 ^ 8 := Nat.or_lt_two_pow (by omega) (by omega)
 rw [qrS (by omega) (by omega), qrz (by omega) (by omega)]
theorem qxP {t : Ts} (h : qxF t) {s : Nat} (hs : s < 256) (k : Nat) : (qsk t s).testBit k = ((s.testBit k || decide ((k : Int) ∈ t.1)) && !decide ((k : Int) ∈ t.2.1)) := by
 obtain ⟨h1, h2, _⟩ := h;have b1 := qmd h1;have b2 := qmd h2;have b3 : s ||| qdP t.1 < 2 ^ 8 := Nat.or_lt_two_pow (by omega) (by omega)
 unfold qsk;rw [qwz (by omega) (by omega), Nat.testBit_or, qga fun x hx => (h1 x hx).1, qga fun x hx => (h2 x hx).1]
theorem qtl {t : Ts} (h : qxF t) {s : Nat} (hs : s < 256) : qef t (s : Int) = some (hold t s) := by
 obtain ⟨h1, h2, hl1, hl2⟩ := h;unfold qef hold;rw [qaH t.1 _ (fun _ x => if s.testBit x.toNat = true then none else some false) (fun i a hi => by
  have := qaE hi;obtain ⟨b1, b2⟩ := h1 a (List.mem_of_getElem? hi);rw [qaf hi];simp only [qa];rw [qk9 b1 (by omega)];simp only [qa];rw [qr8 (by omega)];by_cases c : s.testBit a.toNat = true
  ·simp only [c, if_true, show ¬ ((1 : Int) = 0) by omega, decide_false, cond_false, stp]; rw [wq (by omega) (by omega)]
  ·simp only [c, if_false, decide_true, cond_true, stp, qf]), q7]
 cases hf : qbl (fun _ (x : Int) => if s.testBit x.toNat = true then none else some false) 0 t.1 with
 | some r =>
  obtain ⟨i, a, ha, e, _⟩ := qaC hf;by_cases c : s.testBit a.toNat = true
  ·simp [c] at e
  ·simp only [c, if_false, qf, qb] at e;subst e;have : (t.1.all fun x => s.testBit x.toNat) = false := List.all_eq_false.2 ⟨a, List.mem_of_getElem? ha, by simpa using c⟩;rw [this]; rfl
 | none =>
  have e1 : (t.1.all fun x => s.testBit x.toNat) = true := List.all_eq_true.2 fun x hx => by
   obtain ⟨i, hi⟩ := List.mem_iff_getElem?.1 hx;have := qbC.1 hf i x hi;by_cases c : s.testBit x.toNat = true
   ·exact c
   ·simp [c] at this
  rw [e1];simp only [Bool.true_and];rw [qaH t.2.1 _ (fun _ x => if s.testBit x.toNat = true then some false else none) (fun i a hi => by
   have := qaE hi;obtain ⟨b1, b2⟩ := h2 a (List.mem_of_getElem? hi);rw [qaf hi];simp only [qa];rw [qk9 b1 (by omega)];simp only [qa];rw [qr8 (by omega)];by_cases c : s.testBit a.toNat = true
   ·simp only [c, if_true, decide_true, cond_true, stp]
   ·simp only [c, if_false, show ¬ ((0 : Int) = 1) by omega, decide_false, cond_false, stp, qf]; rw [wq (by omega) (by omega)]), q7]
  cases hf2 : qbl (fun _ (x : Int) => if s.testBit x.toNat = true then some false else none) 0 t.2.1 with
  | some r =>
   obtain ⟨i, a, ha, e, _⟩ := qaC hf2;by_cases c : s.testBit a.toNat = true
   ·simp only [c, if_true, qb] at e;subst e;have : (t.2.1.all fun x => !s.testBit x.toNat) = false := List.all_eq_false.2 ⟨a, List.mem_of_getElem? ha, by simp [c]⟩;rw [this]
   ·simp [c] at e
  | none =>
   have e1 : (t.2.1.all fun x => !s.testBit x.toNat) = true := List.all_eq_true.2 fun x hx => by
    obtain ⟨i, hi⟩ := List.mem_iff_getElem?.1 hx;have := qbC.1 hf2 i x hi;by_cases c : s.testBit x.toNat = true
    ·simp [c] at this
    ·simpa using c
   rw [e1]
theorem qv3 : ∀ (n : Fin 256) (x : Fin 8), (n.val.testBit x.val = true -> n.val - 2 ^ x.val = n.val &&& (255 - 2 ^ x.val) /\ 2 ^ x.val <= n.val) /\ ∀ k : Fin 8, (255 - 2 ^ x.val).testBit k.val = decide (k.val ≠ x.val) := by decide +kernel
def clr (n : Nat) (x : Int) : Nat := if n.testBit x.toNat = true then n - 2 ^ x.toNat else n
theorem qwd (n : Nat) (x : Int) : clr n x <= n := by
 unfold clr;split
 ·exact Nat.sub_le ..
 ·exact Nat.le_refl _
theorem qy1 {n : Nat} {x : Int} (hn : n < 256) (h0 : 0 <= x) (h1 : x < 8) (k : Nat) : (clr n x).testBit k = (n.testBit k && decide ((k : Int) ≠ x)) := by
 obtain ⟨h2, h3⟩ := qv3 ⟨n, hn⟩ ⟨x.toNat, by omega⟩;simp only at h2 h3;unfold clr;by_cases hk : k < 8
 ·have e : decide ((k : Int) ≠ x) = decide (k ≠ x.toNat) := by
   rw [Bool.eq_iff_iff]; simp <;> omega
  by_cases c : n.testBit x.toNat = true
  ·rw [if_pos c, (h2 c).1, Nat.testBit_and, h3 ⟨k, hk⟩, e]
  ·rw [if_neg c, e];by_cases hx : k = x.toNat
   ·subst hx;have : n.testBit x.toNat = false := by simpa using c
    rw [this]; rfl
   ·simp [hx]
 ·have e1 : ∀ m, m < 256 -> m.testBit k = false := fun m hm => Nat.testBit_lt_two_pow (Nat.lt_of_lt_of_le (show m < 2 ^ 8 by omega) (Nat.pow_le_pow_right (by omega) (by omega)));rw [e1 n hn];have : (if n.testBit x.toNat = true then n - 2 ^ x.toNat else n) < 256 := Nat.lt_of_le_of_lt (qwd n x) hn;rw [e1 _ this]; rfl
def qq5 (l : List Int) (n : Nat) : Nat := l.foldl clr n
theorem qvB : ∀ (l : List Int) (n : Nat), qq5 l n <= n
 | [], n => Nat.le_refl _
 | x :: l, n => Nat.le_trans (qvB l (clr n x)) (qwd n x)
theorem qsn : ∀ {l : List Int} {n : Nat}, qx1 l -> n < 256 -> ∀ k : Nat, (qq5 l n).testBit k = (n.testBit k && !decide ((k : Int) ∈ l))
 | [], n, _, _, k => by simp [qq5]
 | x :: l, n, h, hn, k => by
  obtain ⟨h0, h1⟩ := h x (by simp);have h2 := qwd n x;have := qsn (l := l) (n := clr n x) (fun y hy => h y (by simp [hy])) (by omega) k;unfold qq5 at this ⊢;rw [List.foldl_cons, this, qy1 hn h0 h1];by_cases e : (k : Int) = x <;> simp [e]
def orL (l : List Int) (n : Nat) : Nat := l.foldl (fun a x => a ||| 2 ^ x.toNat) n
theorem qxk {t : Ts} (h : qxF t) {s : Nat} (hs : s < 256) : qq5 t.2.1 (orL t.1 s) = qsk t s := by
 have h1 := h.1;have h2 := h.2.1;have b : orL t.1 s < 256 := by
  have : orL t.1 s < 2 ^ 8 := Nat.lt_pow_two_of_testBit _ fun k hk => by
   unfold orL;rw [qle t.1 (fun x hx => (h1 x hx).1)];have e1 : s.testBit k = false := Nat.testBit_lt_two_pow (Nat.lt_of_lt_of_le (show s < 2 ^ 8 by omega) (Nat.pow_le_pow_right (by omega) hk));have e2 : (k : Int) ∉ t.1 := fun hm => by have := h1 _ hm; omega
   simp [e1, e2]
  omega
 refine Nat.eq_of_testBit_eq fun k => ?_;rw [qsn h2 b, qxP h hs];unfold orL;rw [qle t.1 (fun x hx => (h1 x hx).1)]
theorem qyb {l : List Int} (h : qx1 l) {s : Nat} (hs : s < 256) : orL l s < 256 := by
 have : orL l s < 2 ^ 8 := Nat.lt_pow_two_of_testBit _ fun k hk => by
  unfold orL;rw [qle l (fun x hx => (h x hx).1)];have e1 : s.testBit k = false := Nat.testBit_lt_two_pow (Nat.lt_of_lt_of_le (show s < 2 ^ 8 by omega) (Nat.pow_le_pow_right (by omega) hk));have e2 : (k : Int) ∉ l := fun hm => by have := h _ hm; omega
  simp [e1, e2]
 omega
theorem qyM {m : Mc} {s i : Nat} {a : Ac} (ha : m.2.1[i]? = some a) (h1 : qxF (qcS a)) (h2 : qxF (dos a)) (hs : s < 256) :
  qhs m (s : Int) (i : Int) = some (if hold (qcS a) s = true then (((qsk (dos a) s : Nat) : Int), true) else (0, false)) := by
 unfold qhs;rw [qaf ha];simp only [qa];rw [qtl h1 hs];simp only [qa];by_cases c : hold (qcS a) s = true
 ·simp only [c, Bool.not_true, cond_false, if_true];obtain ⟨o1, o2, hl1, hl2⟩ := h2;have k1 : Ok (qU (fun (s4 : (Int × Int)) =>
    bif decide (s4.2 < (a.2.2.2.1.length : Int)) then
     (idx a.2.2.2.1 s4.2).bind fun x5 =>
     (qtv .i64 (1 : Int) x5).bind fun x6 =>
     some (.inl (orI .i64 s4.1 x6, w64 (s4.2 + 1)))
    else
     some (.inr s4.1)) ((s : Int), 0)) (fun r => r = ((orL a.2.2.2.1 s : Nat) : Int)) := by
   refine qfJ a.2.2.2.1.length (fun i (s' : Int × Int) => s' = (((orL (a.2.2.2.1.take i) s : Nat) : Int), (i : Int))) _ (by simp [orL]) ?_;rintro i s' hi rfl;by_cases hlt : i < a.2.2.2.1.length
   ·obtain ⟨x, hx⟩ : ∃ x, a.2.2.2.1[i]? = some x := ⟨_, List.getElem?_eq_getElem hlt⟩
    have h0 : decide ((i : Int) < (a.2.2.2.1.length : Int)) = true := by simp <;> omega
    obtain ⟨b1, b2⟩ := o1 x (List.mem_of_getElem? hx);have hl1' : a.2.2.2.1.length <= 10 := hl1;simp only [h0, cond_true, qaf hx, qa];rw [qhu b1 (by omega)];simp only [qa];have c1 : orL (a.2.2.2.1.take i) s < 256 := qyb (fun y hy => o1 y (List.mem_of_mem_take hy)) hs;have c2 : 2 ^ x.toNat < 2 ^ 62 := Nat.pow_lt_pow_right (by omega) (by omega);rw [qrS (by omega) c2, wq (by omega) (by omega), qeA];refine ⟨hlt, ?_⟩;rw [qb7 x hlt, qaT hx];unfold orL;rw [List.foldl_append];simp
   ·have : i = a.2.2.2.1.length := by omega
    subst this;have h0 : decide ((a.2.2.2.1.length : Int) < (a.2.2.2.1.length : Int)) = false := by simp
    simp only [h0, cond_false];rw [qdC, List.take_length]
  rw [k1.eq];simp only [qa];have hb := qyb o1 hs;have k2 : Ok (qU (fun (s9 : (Int × Int)) =>
    bif decide (s9.2 < (a.2.2.2.2.1.length : Int)) then
     (idx a.2.2.2.2.1 s9.2).bind fun x10 =>
     (qq8 .i64 s9.1 x10).bind fun x11 =>
     (bif decide (qra .i64 x11 (1 : Int) = 1) then
       (idx a.2.2.2.2.1 s9.2).bind fun x12 =>
       (qtv .i64 (1 : Int) x12).bind fun x13 =>
       some (w64 (s9.1 - x13))
      else
       some s9.1).bind fun (p14 : Int) =>
     some (.inl (p14, w64 (s9.2 + 1)))
    else
     some (.inr s9.1)) (((orL a.2.2.2.1 s : Nat) : Int), 0)) (fun r => r = ((qq5 a.2.2.2.2.1 (orL a.2.2.2.1 s) : Nat) : Int)) := by
   refine qfJ a.2.2.2.2.1.length (fun i (s' : Int × Int) => s' = (((qq5 (a.2.2.2.2.1.take i) (orL a.2.2.2.1 s) : Nat) : Int), (i : Int))) _ (by simp [qq5]) ?_;rintro i s' hi rfl;by_cases hlt : i < a.2.2.2.2.1.length
   ·obtain ⟨x, hx⟩ : ∃ x, a.2.2.2.2.1[i]? = some x := ⟨_, List.getElem?_eq_getElem hlt⟩
    have h0 : decide ((i : Int) < (a.2.2.2.2.1.length : Int)) = true := by simp <;> omega
    obtain ⟨b1, b2⟩ := o2 x (List.mem_of_getElem? hx);have hl2' : a.2.2.2.2.1.length <= 10 := hl2;simp only [h0, cond_true, qaf hx, qa];have c1 := qvB (a.2.2.2.2.1.take i) (orL a.2.2.2.1 s);have c1' : orL a.2.2.2.1 s < 256 := hb;rw [qk9 b1 (by omega)];simp only [qa];rw [qr8 (by omega), qhu b1 (by omega)];simp only [qa];have e3 : qq5 (a.2.2.2.2.1.take (i + 1)) (orL a.2.2.2.1 s) = clr (qq5 (a.2.2.2.2.1.take i) (orL a.2.2.2.1 s)) x := by
     rw [qb7 x hlt, qaT hx];unfold qq5;rw [List.foldl_append];simp
    have e4 : (bif decide ((if (qq5 (a.2.2.2.2.1.take i) (orL a.2.2.2.1 s)).testBit x.toNat = true then (1 : Int) else 0) = 1) then some (w64 (((qq5 (a.2.2.2.2.1.take i) (orL a.2.2.2.1 s) : Nat) : Int) - ((2 ^ x.toNat : Nat) : Int))) else some ((qq5 (a.2.2.2.2.1.take i) (orL a.2.2.2.1 s) : Nat) : Int))
      = some ((qq5 (a.2.2.2.2.1.take (i + 1)) (orL a.2.2.2.1 s) : Nat) : Int) := by
     rw [e3];unfold clr;by_cases c : (qq5 (a.2.2.2.2.1.take i) (orL a.2.2.2.1 s)).testBit x.toNat = true
     ·have := ((qv3 ⟨qq5 (a.2.2.2.2.1.take i) (orL a.2.2.2.1 s), by omega⟩ ⟨x.toNat, by omega⟩).1 c).2;simp only at this;simp only [c, if_true, decide_true, cond_true];generalize 2 ^ x.toNat = p at this ⊢;rw [wq (by omega) (by omega)];congr 1
      omega
     ·simp only [c, if_false, show ¬ ((0 : Int) = 1) by omega, decide_false, cond_false, qf]
    rw [e4];simp only [qa];rw [wq (by omega) (by omega), qeA];exact ⟨hlt, by simp⟩
   ·have : i = a.2.2.2.2.1.length := by omega
    subst this;have h0 : decide ((a.2.2.2.2.1.length : Int) < (a.2.2.2.2.1.length : Int)) = false := by simp
    simp only [h0, cond_false];rw [qdC, List.take_length]
  rw [k2.eq];simp only [qa];have := qxk (t := dos a) ⟨o1, o2, hl1, hl2⟩ hs;rw [<- this]
 ·simp [c]
end Go.Proofs.YtkcaaaiihhhnmaaGreat
end
section
namespace Go.Proofs.YtkcaaaiihhhnmaaGreat
open Go Go.Ab Go.Tx
def qzV (l : List Sg) (g : Int) (r : Nm) : Bool := l.any fun x => decide (x.1 = g) && decide (x.2.2.1 = r)
def qzP (g : Int) (acc : List Nm) (x : Sg) : List Nm := if x.1 = g then (if x.2.1 ∈ acc then acc else acc ++ [x.2.1]) else acc
def qz0 (g : Int) (l : List Sg) : List Nm := l.foldl (qzP g) []
def qz1 (seen : Nm -> Bool) (i : Nat) (b : List Int) (r : Nm) : List Int := if seen r = true then b else b ++ [(i : Int)]
def qzY (seen : Nm -> Bool) (l : List Nm) : List Int := foldI (qz1 seen) 0 [] l
def qzQ (l : List Sg) (i : Nat) (t : Gt) : Bool := decide (((qzY (qzV l i) t.2.1).length : Int) > 0) || decide (((qz0 i l).length : Int) < t.2.2.1)
def qzp (gs : List Gt) (l : List Sg) : Option Int := qbl (fun i t => if qzQ l i t = true then some (i : Int) else none) 0 gs
def level (gs : List Gt) (l : List Sg) : Int := (qzp gs l).getD gs.length
end Go.Proofs.YtkcaaaiihhhnmaaGreat
end
section
namespace Go.Proofs.YtkcaaaiihhhnmaaGreat
open Go Go.Ab Go.Tx
end Go.Proofs.YtkcaaaiihhhnmaaGreat
end
section
namespace Go.Proofs.YtkcaaaiihhhnmaaGreat
open Go Go.Ab Go.Tx
def okF (f : Nat) (t : Ts) : Prop := (∀ x ∈ t.1, 0 <= x /\ x < f) /\ (∀ x ∈ t.2.1, 0 <= x /\ x < f) /\ shT t
theorem okF.ok {f : Nat} {t : Ts} (h : okF f t) (h8 : f <= 8) : qxF t := ⟨fun x hx => by have := h.1 x hx; omega, fun x hx => by have := h.2.1 x hx; omega, h.2.2⟩
structure VM (m : Mc) : Prop where
 f0 : 0 < m.1.length
 f8 : m.1.length <= 8
 a10 : m.2.1.length <= 10
 h4 : m.2.2.1.length <= 4
 nd : ∀ a ∈ m.2.1, okF m.1.length (qcS a)
 ds : ∀ a ∈ m.2.1, okF m.1.length (dos a)
 ht : ∀ t ∈ m.2.2.1, okF m.1.length t
theorem qu5 {f : Nat} {l : List Int} (h : quc f l = 0) : ∀ x ∈ l, 0 <= x /\ x < (f : Int) := by
 intro x hx;obtain ⟨i, hi⟩ := List.mem_iff_getElem?.1 hx;have := qd0.1 h i x hi;unfold ixE at this;split at this
 ·omega
 ·omega
theorem qvw {f : Nat} {t : Ts} (hs : shT t) (h : tsE f t = 0) : okF f t := by
 unfold tsE at h;split at h
 ·rename_i h1;split at h
  ·rename_i h2; exact ⟨qu5 h1, qu5 h2, hs⟩
  ·rename_i h2; exact absurd h h2
 ·rename_i h1; exact absurd h h1
theorem qlg {m : Mc} (hb : MB m) (h : (qhB m).2 = 0) : VM m /\ qhB m = (0, 0) := by
 unfold qhB at h ⊢;split at h
 ·rename_i h1;split at h
  ·rename_i h2;split at h
   ·rename_i h3;split at h
    ·rename_i h4;rw [if_pos h1, if_pos h2, if_pos h3, if_pos h4];refine ⟨⟨by omega, by omega, by omega, by omega, fun a ha => ?_, fun a ha => ?_, fun t ht => ?_⟩, qoo h⟩
     ·obtain ⟨i, hi⟩ := List.mem_iff_getElem?.1 ha;have := qd0.1 h4 i a hi;obtain ⟨_, b1, b2⟩ := hb.an a ha;unfold acE at this;split at this
      ·split at this
       ·omega
       ·split at this
        ·rename_i h5; exact qvw b1 h5
        ·rename_i h5; exact absurd this h5
      ·omega
     ·obtain ⟨i, hi⟩ := List.mem_iff_getElem?.1 ha;have := qd0.1 h4 i a hi;obtain ⟨_, b1, b2⟩ := hb.an a ha;unfold acE at this;split at this
      ·split at this
       ·omega
       ·split at this
        ·exact qvw b2 this
        ·rename_i h5; exact absurd this h5
      ·omega
     ·obtain ⟨i, hi⟩ := List.mem_iff_getElem?.1 ht;exact qvw (hb.ht t ht) (qd0.1 h i t hi)
    ·rename_i h4; exact absurd h h4
   ·rename_i h3; exact absurd h h3
  ·cases h
 ·cases h
abbrev Bm := List Bt × List Bt × List Bt × Int × Unit
def bm (m : Mc) : Bm := (m.2.1.map fun a => bt (qcS a), m.2.1.map fun a => bt (dos a), m.2.2.1.map bt, ((2 ^ m.1.length : Nat) : Int), ())
def qtZ (m : Mc) : Bm × Int := if (qhB m).2 = 0 then (bm m, 0) else (([], [], [], 0, ()), (qhB m).2)
theorem qyS {m : Mc} (hb : MB m) : qfC m = some (qtZ m) := by
 unfold qfC qtZ;rw [qm0 hb];simp only [qa];by_cases h : (qhB m).2 = 0
 ·obtain ⟨hv, _⟩ := qlg hb h;have h8 := hv.f8; have h10 := hv.a10; have h4 := hv.h4;simp only [h, decide_true, Bool.not_true, cond_false, if_true];rw [qhu (by omega) (by omega)];simp only [qa, Int.toNat_natCast];have k1 : Ok (qU (fun (s5 : (Int × (List Bt) × (List Bt) × (List Bt) × Int)) =>
    bif decide (s5.1 < (m.2.1.length : Int)) then
     (idx m.2.1 s5.1).bind fun x6 =>
     (qaw (x6.2.1, x6.2.2.1, ())).bind fun x7 =>
     (app s5.2.1 ([x7])).bind fun x8 =>
     (qaw (x6.2.2.2.1, x6.2.2.2.2.1, ())).bind fun x9 =>
     (app s5.2.2.1 ([x9])).bind fun x10 =>
     some (.inl (w64 (s5.1 + 1), x8, x10, s5.2.2.2.1, s5.2.2.2.2))
    else
     some (.inr (s5.2.1, s5.2.2.1, s5.2.2.2.1, s5.2.2.2.2))) (0, [], [], [], ((2 ^ m.1.length : Nat) : Int))) (fun r => r = (m.2.1.map fun a => bt (qcS a), m.2.1.map fun a => bt (dos a), [], ((2 ^ m.1.length : Nat) : Int))) := by
   refine qfJ m.2.1.length (fun i (s : Int × List Bt × List Bt × List Bt × Int) => s = ((i : Int), (m.2.1.take i).map (fun a => bt (qcS a)), (m.2.1.take i).map (fun a => bt (dos a)), [], ((2 ^ m.1.length : Nat) : Int))) _ rfl ?_;rintro i s hi rfl;by_cases hlt : i < m.2.1.length
   ·obtain ⟨a, ha⟩ : ∃ a, m.2.1[i]? = some a := ⟨_, List.getElem?_eq_getElem hlt⟩
    have h0 : decide ((i : Int) < (m.2.1.length : Int)) = true := by simp <;> omega
    have hm := List.mem_of_getElem? ha;simp only [h0, cond_true, qaf ha, qa];rw [qjI ((hv.nd a hm).ok h8)];simp only [qa];rw [qmT (by simp; omega)];simp only [qa];rw [qjI ((hv.ds a hm).ok h8)];simp only [qa];rw [qmT (by simp; omega)];simp only [qa];rw [wq (by omega) (by omega), qeA];exact ⟨hlt, by rw [qb7 a hlt, qaT ha]; simp⟩
   ·have : i = m.2.1.length := by omega
    subst this;have h0 : decide ((m.2.1.length : Int) < (m.2.1.length : Int)) = false := by simp
    simp only [h0, cond_false];rw [qdC, List.take_length]
  rw [k1.eq];simp only [qa];have k2 : Ok (qU (fun (s14 : (Int × (List Bt) × (List Bt) × (List Bt) × Int)) =>
    bif decide (s14.1 < (m.2.2.1.length : Int)) then
     (idx m.2.2.1 s14.1).bind fun x15 =>
     (qaw x15).bind fun x16 =>
     (app s14.2.2.2.1 ([x16])).bind fun x17 =>
     some (.inl (w64 (s14.1 + 1), s14.2.1, s14.2.2.1, x17, s14.2.2.2.2))
    else
     some (.inr (s14.2.1, s14.2.2.1, s14.2.2.2.1, s14.2.2.2.2))) (0, m.2.1.map (fun a => bt (qcS a)), m.2.1.map (fun a => bt (dos a)), [], ((2 ^ m.1.length : Nat) : Int))) (fun r => r = (m.2.1.map (fun a => bt (qcS a)), m.2.1.map (fun a => bt (dos a)), m.2.2.1.map bt, ((2 ^ m.1.length : Nat) : Int))) := by
   refine qfJ m.2.2.1.length (fun i (s : Int × List Bt × List Bt × List Bt × Int) => s = ((i : Int), m.2.1.map (fun a => bt (qcS a)), m.2.1.map (fun a => bt (dos a)), (m.2.2.1.take i).map bt, ((2 ^ m.1.length : Nat) : Int))) _ rfl ?_;rintro i s hi rfl;by_cases hlt : i < m.2.2.1.length
   ·obtain ⟨a, ha⟩ : ∃ a, m.2.2.1[i]? = some a := ⟨_, List.getElem?_eq_getElem hlt⟩
    have h0 : decide ((i : Int) < (m.2.2.1.length : Int)) = true := by simp <;> omega
    have hm := List.mem_of_getElem? ha;simp only [h0, cond_true, qaf ha, qa];rw [qjI ((hv.ht a hm).ok h8)];simp only [qa];rw [qmT (by simp; omega)];simp only [qa];rw [wq (by omega) (by omega), qeA];exact ⟨hlt, by rw [qb7 a hlt, qaT ha]; simp⟩
   ·have : i = m.2.2.1.length := by omega
    subst this;have h0 : decide ((m.2.2.1.length : Int) < (m.2.2.1.length : Int)) = false := by simp
    simp only [h0, cond_false];rw [qdC, List.take_length]
  rw [k2.eq];rfl
 ·simp [h]
def stE (m : Mc) (s : Int) : Int := if (qhB m).2 = 0 then (if 0 <= s /\ s <= ((2 ^ m.1.length : Nat) : Int) - 1 then 0 else 2) else (qhB m).2
theorem qkh {m : Mc} (hv : VM m) : 0 < 2 ^ m.1.length /\ 2 ^ m.1.length <= 256 := ⟨Nat.pow_pos (by omega), Nat.pow_le_pow_right (n := 2) (by omega) hv.f8⟩
theorem qqD {m : Mc} (hb : MB m) (s : Int) : qcg m s = some ((qtZ m).1, s, stE m s) := by
 unfold qcg;rw [qyS hb];simp only [qa, wit, unl];rw [qyh _ (by simp)];simp only [qa];unfold qtZ stE;by_cases h : (qhB m).2 = 0
 ·obtain ⟨hv, _⟩ := qlg hb h;obtain ⟨p1, p2⟩ := qkh hv;simp only [h, if_true, bm, qiz];generalize 2 ^ m.1.length = p at p1 p2 ⊢;rw [wq (by omega) (by omega)];by_cases c : 0 <= s /\ s <= (p : Int) - 1 <;> simp [c, qiz]
 ·simp [h, qiz]
theorem qrE {m : Mc} (hb : MB m) (s : Int) : qdd m s = some (stE m s) := by
 unfold qdd;rw [qoy hb];simp only [qa];unfold stE;by_cases h : (qhB m).2 = 0
 ·obtain ⟨hv, _⟩ := qlg hb h;obtain ⟨p1, p2⟩ := qkh hv;have h8 := hv.f8;simp only [h, if_true, decide_true, Bool.not_true, cond_false];unfold qe4 qbF;rw [qhu (by omega) (by omega)];simp only [qa, Int.toNat_natCast, Wit];generalize 2 ^ m.1.length = p at p1 p2 ⊢;rw [wq (by omega) (by omega)];by_cases c : 0 <= s /\ s <= (p : Int) - 1 <;> simp [c]
 ·simp [h]
theorem qx5 {m : Mc} (hb : MB m) {s : Int} (h : stE m s = 0) : VM m /\ qhB m = (0, 0) /\ qtZ m = (bm m, 0) /\ ∃ n : Nat, s = (n : Int) /\ n < 2 ^ m.1.length /\ n < 256 := by
 unfold stE at h;split at h
 ·rename_i h1;obtain ⟨hv, h2⟩ := qlg hb h1;obtain ⟨p1, p2⟩ := qkh hv;split at h
  ·rename_i h3;refine ⟨hv, h2, by unfold qtZ; rw [if_pos h1], s.toNat, by omega, ?_, ?_⟩
   ·generalize 2 ^ m.1.length = p at p1 p2 h3 ⊢; omega
   ·generalize 2 ^ m.1.length = p at p1 p2 h3 ⊢; omega
  ·cases h
 ·rename_i h1; exact absurd h h1
theorem qxR {i : Nat} (h : i < 62) : qq8 .i64 0 (i : Int) = some 0 := by
 have := qk9 (a := 0) (x := (i : Int)) (by omega) (by omega);simpa using this
theorem and_zero : qra .i64 0 1 = 0 := by
 have := qld (a := 0) (b := 1) (by omega) (by omega);simpa using this
end Go.Proofs.YtkcaaaiihhhnmaaGreat
end
