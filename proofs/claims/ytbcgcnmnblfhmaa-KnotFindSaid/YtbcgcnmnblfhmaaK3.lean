/- The code of function 3, weathervane/weathervanelaw16.KnotFind, each region as one path. Written by gen.py. -/
import Derived.Test.YtbcgcnmnblfhmaaLin15
import Derived.Test.YtbcgcnmnblfhmaaProg
import Derived.KernelRfl
namespace Go.Proofs.Ytbcgcnmnblfhmaa
open Lin

/-- law.go:15 -/
def p3_0 : Path := [
  (⟨0, some 4, (.assign (.const (.bool false))), none⟩, [])]
/-- law.go:16 -/
def p3_1 : Path := [
  (⟨0, some 26, (.call { callee := (.value (.func 8)), args := #[], argTypes := #[] }), none⟩, []),
  (⟨1, some 27, (.unOp .not 4 (.tmp 26)), none⟩, []),
  (⟨2, some 28, (.move (.tmp 27)), none⟩, []),
  (⟨3, some 29, (.move (.tmp 0)), (some (28, false))⟩, []),
  (⟨4, some 30, (.call { callee := (.builtin .len), args := #[(.tmp 29)], argTypes := #[22] }), (some (28, false))⟩, []),
  (⟨5, some 31, (.binOp .gtr 3 (.tmp 30) (.const (.int .i64 25)) 3), (some (28, false))⟩, []),
  (⟨6, some 32, (.pick (.tmp 28) (.const (.bool true)) (.tmp 31)), none⟩, [])]
/-- law.go:17 -/
def p3_2 : Path := [
  (⟨0, some 33, (.call { callee := (.value (.func 8)), args := #[], argTypes := #[] }), none⟩, []),
  (⟨1, some 4, (.assign (.tmp 33)), none⟩, [])]
/-- law.go:19 -/
def p3_3 : Path := [
  (⟨0, some 34, (.move (.tmp 0)), none⟩, []),
  (⟨1, some 35, (.call { callee := (.builtin .len), args := #[(.tmp 34)], argTypes := #[22] }), none⟩, []),
  (⟨2, some 5, (.assign (.tmp 35)), none⟩, [])]
/-- law.go:20 -/
def p3_4 : Path := [
  (⟨0, some 6, (.assign (.const (.slice none 0 0))), none⟩, [])]
/-- law.go:21 -/
def p3_5 : Path := [
  (⟨0, some 7, (.assign (.const (.int .i64 0))), none⟩, [])]
/-- law.go:21 -/
def p3_6 : Path := [
  (⟨0, some 36, (.move (.tmp 7)), none⟩, []),
  (⟨1, some 37, (.move (.tmp 5)), none⟩, []),
  (⟨2, some 38, (.binOp .lss 3 (.tmp 36) (.tmp 37) 3), none⟩, [])]
/-- law.go:22 -/
def p3_8 : Path := [
  (⟨0, some 41, (.move (.tmp 0)), none⟩, []),
  (⟨1, some 42, (.move (.tmp 7)), none⟩, []),
  (⟨2, some 43, (.indexAddr 22 (.tmp 41) (.tmp 42)), none⟩, []),
  (⟨3, some 44, (.load 24 (.tmp 43)), none⟩, []),
  (⟨4, some 45, (.call { callee := (.builtin .len), args := #[(.tmp 44)], argTypes := #[24] }), none⟩, []),
  (⟨5, some 46, (.binOp .gtr 3 (.tmp 45) (.const (.int .i64 30)) 3), none⟩, [])]
/-- law.go:23 -/
def p3_9 : Path := [
  (⟨0, some 4, (.assign (.const (.bool true))), none⟩, [])]
/-- law.go:25 -/
def p3_10 : Path := [
  (⟨0, some 8, (.assign (.const (.slice none 0 0))), none⟩, [])]
/-- law.go:26 -/
def p3_11 : Path := [
  (⟨0, some 9, (.assign (.const (.int .i64 0))), none⟩, [])]
/-- law.go:26 -/
def p3_12 : Path := [
  (⟨0, some 47, (.move (.tmp 9)), none⟩, []),
  (⟨1, some 48, (.move (.tmp 0)), none⟩, []),
  (⟨2, some 49, (.move (.tmp 7)), none⟩, []),
  (⟨3, some 50, (.indexAddr 22 (.tmp 48) (.tmp 49)), none⟩, []),
  (⟨4, some 51, (.load 24 (.tmp 50)), none⟩, []),
  (⟨5, some 52, (.call { callee := (.builtin .len), args := #[(.tmp 51)], argTypes := #[24] }), none⟩, []),
  (⟨6, some 53, (.binOp .lss 3 (.tmp 47) (.tmp 52) 3), none⟩, [])]
/-- law.go:27 -/
def p3_14 : Path := [
  (⟨0, some 56, (.move (.tmp 0)), none⟩, []),
  (⟨1, some 57, (.move (.tmp 7)), none⟩, []),
  (⟨2, some 58, (.indexAddr 22 (.tmp 56) (.tmp 57)), none⟩, []),
  (⟨3, some 59, (.load 24 (.tmp 58)), none⟩, []),
  (⟨4, some 60, (.move (.tmp 9)), none⟩, []),
  (⟨5, some 61, (.indexAddr 24 (.tmp 59) (.tmp 60)), none⟩, []),
  (⟨6, some 62, (.load 3 (.tmp 61)), none⟩, []),
  (⟨7, some 10, (.assign (.tmp 62)), none⟩, [])]
/-- law.go:28 -/
def p3_15 : Path := [
  (⟨0, some 63, (.move (.tmp 1)), none⟩, [])]
/-- law.go:29 -/
def p3_16 : Path := [
  (⟨0, some 64, (.move (.tmp 10)), none⟩, []),
  (⟨1, some 65, (.convert 3 25 (.tmp 64)), none⟩, []),
  (⟨2, some 66, (.move (.tmp 5)), none⟩, []),
  (⟨3, some 67, (.convert 3 25 (.tmp 66)), none⟩, []),
  (⟨4, some 68, (.binOp .rem 25 (.tmp 65) (.tmp 67) 25), none⟩, []),
  (⟨5, some 69, (.convert 25 3 (.tmp 68)), none⟩, []),
  (⟨6, some 10, (.assign (.tmp 69)), none⟩, [])]
/-- law.go:31 -/
def p3_17 : Path := [
  (⟨0, some 70, (.move (.tmp 8)), none⟩, []),
  (⟨1, some 71, (.move (.tmp 10)), none⟩, []),
  (⟨2, some 72, (.buildSlice 24 1 #[(0, (.tmp 71))]), none⟩, []),
  (⟨3, some 73, (.call { callee := (.builtin .append), args := #[(.tmp 70), (.tmp 72)], argTypes := #[24, 24] }), none⟩, []),
  (⟨4, some 8, (.assign (.tmp 73)), none⟩, [])]
/-- law.go:26 -/
def p3_13 : Path := [
  (⟨0, some 54, (.move (.tmp 9)), none⟩, []),
  (⟨1, some 55, (.binOp .add 3 (.tmp 54) (.const (.int .i64 1)) 3), none⟩, []),
  (⟨2, some 9, (.assign (.tmp 55)), none⟩, [])]
/-- law.go:33 -/
def p3_18 : Path := [
  (⟨0, some 74, (.move (.tmp 6)), none⟩, []),
  (⟨1, some 75, (.move (.tmp 8)), none⟩, []),
  (⟨2, some 76, (.buildSlice 22 1 #[(0, (.tmp 75))]), none⟩, []),
  (⟨3, some 77, (.call { callee := (.builtin .append), args := #[(.tmp 74), (.tmp 76)], argTypes := #[22, 22] }), none⟩, []),
  (⟨4, some 6, (.assign (.tmp 77)), none⟩, [])]
/-- law.go:21 -/
def p3_7 : Path := [
  (⟨0, some 39, (.move (.tmp 7)), none⟩, []),
  (⟨1, some 40, (.binOp .add 3 (.tmp 39) (.const (.int .i64 1)) 3), none⟩, []),
  (⟨2, some 7, (.assign (.tmp 40)), none⟩, [])]
/-- law.go:36 -/
def p3_19 : Path := [
  (⟨0, some 78, (.move (.tmp 5)), none⟩, []),
  (⟨1, some 79, (.makeSlice 26 (.tmp 78) (.tmp 78)), none⟩, []),
  (⟨2, some 11, (.assign (.tmp 79)), none⟩, [])]
/-- law.go:37 -/
def p3_20 : Path := [
  (⟨0, some 12, (.assign (.const (.int .i64 0))), none⟩, [])]
/-- law.go:37 -/
def p3_21 : Path := [
  (⟨0, some 80, (.move (.tmp 12)), none⟩, []),
  (⟨1, some 81, (.move (.tmp 5)), none⟩, []),
  (⟨2, some 82, (.binOp .lss 3 (.tmp 80) (.tmp 81) 3), none⟩, [])]
/-- law.go:38 -/
def p3_23 : Path := [
  (⟨0, some 85, (.move (.tmp 11)), none⟩, []),
  (⟨1, some 86, (.move (.tmp 12)), none⟩, []),
  (⟨2, some 87, (.move (.tmp 5)), none⟩, []),
  (⟨3, some 88, (.makeSlice 27 (.tmp 87) (.tmp 87)), none⟩, []),
  (⟨4, some 89, (.indexAddr 26 (.tmp 85) (.tmp 86)), none⟩, []),
  (⟨5, none, (.store 27 (.tmp 89) (.tmp 88)), none⟩, [])]
/-- law.go:39 -/
def p3_24 : Path := [
  (⟨0, some 90, (.move (.tmp 11)), none⟩, []),
  (⟨1, some 91, (.move (.tmp 12)), none⟩, []),
  (⟨2, some 92, (.indexAddr 26 (.tmp 90) (.tmp 91)), none⟩, []),
  (⟨3, some 93, (.load 27 (.tmp 92)), none⟩, []),
  (⟨4, some 94, (.move (.tmp 12)), none⟩, []),
  (⟨5, some 95, (.indexAddr 27 (.tmp 93) (.tmp 94)), none⟩, []),
  (⟨6, none, (.store 4 (.tmp 95) (.const (.bool true))), none⟩, [])]
/-- law.go:37 -/
def p3_22 : Path := [
  (⟨0, some 83, (.move (.tmp 12)), none⟩, []),
  (⟨1, some 84, (.binOp .add 3 (.tmp 83) (.const (.int .i64 1)) 3), none⟩, []),
  (⟨2, some 12, (.assign (.tmp 84)), none⟩, [])]
/-- law.go:41 -/
def p3_25 : Path := [
  (⟨0, some 13, (.assign (.const (.int .i64 0))), none⟩, [])]
/-- law.go:41 -/
def p3_26 : Path := [
  (⟨0, some 96, (.move (.tmp 13)), none⟩, []),
  (⟨1, some 97, (.move (.tmp 5)), none⟩, []),
  (⟨2, some 98, (.binOp .lss 3 (.tmp 96) (.tmp 97) 3), none⟩, [])]
/-- law.go:42 -/
def p3_28 : Path := [
  (⟨0, some 14, (.assign (.const (.int .i64 0))), none⟩, [])]
/-- law.go:42 -/
def p3_29 : Path := [
  (⟨0, some 101, (.move (.tmp 14)), none⟩, []),
  (⟨1, some 102, (.move (.tmp 5)), none⟩, []),
  (⟨2, some 103, (.binOp .lss 3 (.tmp 101) (.tmp 102) 3), none⟩, [])]
/-- law.go:43 -/
def p3_31 : Path := [
  (⟨0, some 15, (.assign (.const (.int .i64 0))), none⟩, [])]
/-- law.go:43 -/
def p3_32 : Path := [
  (⟨0, some 106, (.move (.tmp 15)), none⟩, []),
  (⟨1, some 107, (.move (.tmp 6)), none⟩, []),
  (⟨2, some 108, (.move (.tmp 14)), none⟩, []),
  (⟨3, some 109, (.indexAddr 22 (.tmp 107) (.tmp 108)), none⟩, []),
  (⟨4, some 110, (.load 24 (.tmp 109)), none⟩, []),
  (⟨5, some 111, (.call { callee := (.builtin .len), args := #[(.tmp 110)], argTypes := #[24] }), none⟩, []),
  (⟨6, some 112, (.binOp .lss 3 (.tmp 106) (.tmp 111) 3), none⟩, [])]
/-- law.go:44 -/
def p3_34 : Path := [
  (⟨0, some 115, (.move (.tmp 6)), none⟩, []),
  (⟨1, some 116, (.move (.tmp 14)), none⟩, []),
  (⟨2, some 117, (.indexAddr 22 (.tmp 115) (.tmp 116)), none⟩, []),
  (⟨3, some 118, (.load 24 (.tmp 117)), none⟩, []),
  (⟨4, some 119, (.move (.tmp 15)), none⟩, []),
  (⟨5, some 120, (.indexAddr 24 (.tmp 118) (.tmp 119)), none⟩, []),
  (⟨6, some 121, (.load 3 (.tmp 120)), none⟩, []),
  (⟨7, some 16, (.assign (.tmp 121)), none⟩, [])]
/-- law.go:45 -/
def p3_35 : Path := [
  (⟨0, some 17, (.assign (.const (.int .i64 0))), none⟩, [])]
/-- law.go:45 -/
def p3_36 : Path := [
  (⟨0, some 122, (.move (.tmp 16)), none⟩, []),
  (⟨1, some 123, (.binOp .geq 3 (.tmp 122) (.const (.int .i64 0)) 3), none⟩, []),
  (⟨2, some 124, (.move (.tmp 123)), none⟩, []),
  (⟨3, some 125, (.move (.tmp 16)), (some (124, true))⟩, []),
  (⟨4, some 126, (.move (.tmp 5)), (some (124, true))⟩, []),
  (⟨5, some 127, (.binOp .lss 3 (.tmp 125) (.tmp 126) 3), (some (124, true))⟩, []),
  (⟨6, some 128, (.pick (.tmp 124) (.tmp 127) (.const (.bool false))), none⟩, []),
  (⟨7, some 129, (.move (.tmp 128)), none⟩, []),
  (⟨8, some 130, (.move (.tmp 17)), (some (129, true))⟩, []),
  (⟨9, some 131, (.move (.tmp 5)), (some (129, true))⟩, []),
  (⟨10, some 132, (.binOp .lss 3 (.tmp 130) (.tmp 131) 3), (some (129, true))⟩, []),
  (⟨11, some 133, (.pick (.tmp 129) (.tmp 132) (.const (.bool false))), none⟩, [])]
/-- law.go:46 -/
def p3_38 : Path := [
  (⟨0, some 136, (.move (.tmp 11)), none⟩, []),
  (⟨1, some 137, (.move (.tmp 14)), none⟩, []),
  (⟨2, some 138, (.indexAddr 26 (.tmp 136) (.tmp 137)), none⟩, []),
  (⟨3, some 139, (.load 27 (.tmp 138)), none⟩, []),
  (⟨4, some 140, (.move (.tmp 17)), none⟩, []),
  (⟨5, some 141, (.move (.tmp 11)), none⟩, []),
  (⟨6, some 142, (.move (.tmp 14)), none⟩, []),
  (⟨7, some 143, (.indexAddr 26 (.tmp 141) (.tmp 142)), none⟩, []),
  (⟨8, some 144, (.load 27 (.tmp 143)), none⟩, []),
  (⟨9, some 145, (.move (.tmp 17)), none⟩, []),
  (⟨10, some 146, (.indexAddr 27 (.tmp 144) (.tmp 145)), none⟩, []),
  (⟨11, some 147, (.load 4 (.tmp 146)), none⟩, []),
  (⟨12, some 148, (.move (.tmp 147)), none⟩, []),
  (⟨13, some 149, (.move (.tmp 11)), (some (148, false))⟩, []),
  (⟨14, some 150, (.move (.tmp 16)), (some (148, false))⟩, []),
  (⟨15, some 151, (.indexAddr 26 (.tmp 149) (.tmp 150)), (some (148, false))⟩, []),
  (⟨16, some 152, (.load 27 (.tmp 151)), (some (148, false))⟩, []),
  (⟨17, some 153, (.move (.tmp 17)), (some (148, false))⟩, []),
  (⟨18, some 154, (.indexAddr 27 (.tmp 152) (.tmp 153)), (some (148, false))⟩, []),
  (⟨19, some 155, (.load 4 (.tmp 154)), (some (148, false))⟩, []),
  (⟨20, some 156, (.pick (.tmp 148) (.const (.bool true)) (.tmp 155)), none⟩, []),
  (⟨21, some 157, (.indexAddr 27 (.tmp 139) (.tmp 140)), none⟩, []),
  (⟨22, none, (.store 4 (.tmp 157) (.tmp 156)), none⟩, [])]
/-- law.go:45 -/
def p3_37 : Path := [
  (⟨0, some 134, (.move (.tmp 17)), none⟩, []),
  (⟨1, some 135, (.binOp .add 3 (.tmp 134) (.const (.int .i64 1)) 3), none⟩, []),
  (⟨2, some 17, (.assign (.tmp 135)), none⟩, [])]
/-- law.go:43 -/
def p3_33 : Path := [
  (⟨0, some 113, (.move (.tmp 15)), none⟩, []),
  (⟨1, some 114, (.binOp .add 3 (.tmp 113) (.const (.int .i64 1)) 3), none⟩, []),
  (⟨2, some 15, (.assign (.tmp 114)), none⟩, [])]
/-- law.go:42 -/
def p3_30 : Path := [
  (⟨0, some 104, (.move (.tmp 14)), none⟩, []),
  (⟨1, some 105, (.binOp .add 3 (.tmp 104) (.const (.int .i64 1)) 3), none⟩, []),
  (⟨2, some 14, (.assign (.tmp 105)), none⟩, [])]
/-- law.go:41 -/
def p3_27 : Path := [
  (⟨0, some 99, (.move (.tmp 13)), none⟩, []),
  (⟨1, some 100, (.binOp .add 3 (.tmp 99) (.const (.int .i64 1)) 3), none⟩, []),
  (⟨2, some 13, (.assign (.tmp 100)), none⟩, [])]
/-- law.go:51 -/
def p3_39 : Path := [
  (⟨0, some 159, (.move (.tmp 6)), none⟩, []),
  (⟨1, some 160, (.call { callee := (.value (.func 9)), args := #[(.tmp 159)], argTypes := #[22] }), none⟩, []),
  (⟨2, some 158, (.move (.tmp 160)), none⟩, []),
  (⟨3, some 161, (.extract (.tmp 158) 0), none⟩, []),
  (⟨4, some 162, (.extract (.tmp 158) 1), none⟩, []),
  (⟨5, some 18, (.assign (.tmp 161)), none⟩, []),
  (⟨6, some 19, (.assign (.tmp 162)), none⟩, [])]
/-- law.go:52 -/
def p3_40 : Path := [
  (⟨0, some 163, (.move (.tmp 19)), none⟩, []),
  (⟨1, some 164, (.call { callee := (.builtin .len), args := #[(.tmp 163)], argTypes := #[24] }), none⟩, []),
  (⟨2, some 165, (.move (.tmp 5)), none⟩, []),
  (⟨3, some 166, (.binOp .neq 3 (.tmp 164) (.tmp 165) 3), none⟩, [])]
/-- law.go:53 -/
def p3_41 : Path := [
  (⟨0, some 4, (.assign (.const (.bool false))), none⟩, [])]
/-- law.go:55 -/
def p3_42 : Path := [
  (⟨0, some 20, (.assign (.const (.int .i64 0))), none⟩, [])]
/-- law.go:56 -/
def p3_43 : Path := [
  (⟨0, some 21, (.assign (.const (.int .i64 0))), none⟩, [])]
/-- law.go:56 -/
def p3_44 : Path := [
  (⟨0, some 167, (.move (.tmp 21)), none⟩, []),
  (⟨1, some 168, (.move (.tmp 18)), none⟩, []),
  (⟨2, some 169, (.call { callee := (.builtin .len), args := #[(.tmp 168)], argTypes := #[22] }), none⟩, []),
  (⟨3, some 170, (.binOp .lss 3 (.tmp 167) (.tmp 169) 3), none⟩, [])]
/-- law.go:57 -/
def p3_46 : Path := [
  (⟨0, some 22, (.assign (.const (.int .i64 0))), none⟩, [])]
/-- law.go:57 -/
def p3_47 : Path := [
  (⟨0, some 173, (.move (.tmp 22)), none⟩, []),
  (⟨1, some 174, (.move (.tmp 18)), none⟩, []),
  (⟨2, some 175, (.move (.tmp 21)), none⟩, []),
  (⟨3, some 176, (.indexAddr 22 (.tmp 174) (.tmp 175)), none⟩, []),
  (⟨4, some 177, (.load 24 (.tmp 176)), none⟩, []),
  (⟨5, some 178, (.call { callee := (.builtin .len), args := #[(.tmp 177)], argTypes := #[24] }), none⟩, []),
  (⟨6, some 179, (.binOp .lss 3 (.tmp 173) (.tmp 178) 3), none⟩, [])]
/-- law.go:58 -/
def p3_49 : Path := [
  (⟨0, some 182, (.move (.tmp 18)), none⟩, []),
  (⟨1, some 183, (.move (.tmp 21)), none⟩, []),
  (⟨2, some 184, (.indexAddr 22 (.tmp 182) (.tmp 183)), none⟩, []),
  (⟨3, some 185, (.load 24 (.tmp 184)), none⟩, []),
  (⟨4, some 186, (.move (.tmp 22)), none⟩, []),
  (⟨5, some 187, (.indexAddr 24 (.tmp 185) (.tmp 186)), none⟩, []),
  (⟨6, some 188, (.load 3 (.tmp 187)), none⟩, []),
  (⟨7, some 23, (.assign (.tmp 188)), none⟩, [])]
/-- law.go:59 -/
def p3_50 : Path := [
  (⟨0, some 189, (.move (.tmp 23)), none⟩, []),
  (⟨1, some 190, (.binOp .lss 3 (.tmp 189) (.const (.int .i64 0)) 3), none⟩, []),
  (⟨2, some 191, (.move (.tmp 190)), none⟩, []),
  (⟨3, some 192, (.move (.tmp 23)), (some (191, false))⟩, []),
  (⟨4, some 193, (.move (.tmp 5)), (some (191, false))⟩, []),
  (⟨5, some 194, (.binOp .geq 3 (.tmp 192) (.tmp 193) 3), (some (191, false))⟩, []),
  (⟨6, some 195, (.pick (.tmp 191) (.const (.bool true)) (.tmp 194)), none⟩, []),
  (⟨7, some 196, (.move (.tmp 195)), none⟩, []),
  (⟨8, some 197, (.move (.tmp 19)), (some (196, false))⟩, []),
  (⟨9, some 198, (.move (.tmp 23)), (some (196, false))⟩, []),
  (⟨10, some 199, (.indexAddr 24 (.tmp 197) (.tmp 198)), (some (196, false))⟩, []),
  (⟨11, some 200, (.load 3 (.tmp 199)), (some (196, false))⟩, []),
  (⟨12, some 201, (.move (.tmp 21)), (some (196, false))⟩, []),
  (⟨13, some 202, (.binOp .neq 3 (.tmp 200) (.tmp 201) 3), (some (196, false))⟩, []),
  (⟨14, some 203, (.pick (.tmp 196) (.const (.bool true)) (.tmp 202)), none⟩, []),
  (⟨15, some 204, (.move (.tmp 203)), none⟩, []),
  (⟨16, some 205, (.move (.tmp 22)), (some (204, false))⟩, []),
  (⟨17, some 206, (.binOp .gtr 3 (.tmp 205) (.const (.int .i64 0)) 3), (some (204, false))⟩, []),
  (⟨18, some 207, (.move (.tmp 206)), (some (204, false))⟩, []),
  (⟨19, some 208, (.move (.tmp 18)), (some (207, true))⟩, []),
  (⟨20, some 209, (.move (.tmp 21)), (some (207, true))⟩, []),
  (⟨21, some 210, (.indexAddr 22 (.tmp 208) (.tmp 209)), (some (207, true))⟩, []),
  (⟨22, some 211, (.load 24 (.tmp 210)), (some (207, true))⟩, []),
  (⟨23, some 212, (.move (.tmp 22)), (some (207, true))⟩, []),
  (⟨24, some 213, (.binOp .sub 3 (.tmp 212) (.const (.int .i64 1)) 3), (some (207, true))⟩, []),
  (⟨25, some 214, (.indexAddr 24 (.tmp 211) (.tmp 213)), (some (207, true))⟩, []),
  (⟨26, some 215, (.load 3 (.tmp 214)), (some (207, true))⟩, []),
  (⟨27, some 216, (.move (.tmp 23)), (some (207, true))⟩, []),
  (⟨28, some 217, (.binOp .geq 3 (.tmp 215) (.tmp 216) 3), (some (207, true))⟩, []),
  (⟨29, some 218, (.pick (.tmp 207) (.tmp 217) (.const (.bool false))), (some (204, false))⟩, []),
  (⟨30, some 219, (.pick (.tmp 204) (.const (.bool true)) (.tmp 218)), none⟩, [])]
/-- law.go:60 -/
def p3_51 : Path := [
  (⟨0, some 4, (.assign (.const (.bool false))), none⟩, [])]
/-- law.go:62 -/
def p3_52 : Path := [
  (⟨0, some 220, (.move (.tmp 20)), none⟩, []),
  (⟨1, some 221, (.binOp .add 3 (.tmp 220) (.const (.int .i64 1)) 3), none⟩, []),
  (⟨2, some 20, (.assign (.tmp 221)), none⟩, [])]
/-- law.go:57 -/
def p3_48 : Path := [
  (⟨0, some 180, (.move (.tmp 22)), none⟩, []),
  (⟨1, some 181, (.binOp .add 3 (.tmp 180) (.const (.int .i64 1)) 3), none⟩, []),
  (⟨2, some 22, (.assign (.tmp 181)), none⟩, [])]
/-- law.go:64 -/
def p3_53 : Path := [
  (⟨0, some 222, (.move (.tmp 18)), none⟩, []),
  (⟨1, some 223, (.move (.tmp 21)), none⟩, []),
  (⟨2, some 224, (.indexAddr 22 (.tmp 222) (.tmp 223)), none⟩, []),
  (⟨3, some 225, (.load 24 (.tmp 224)), none⟩, []),
  (⟨4, some 226, (.call { callee := (.builtin .len), args := #[(.tmp 225)], argTypes := #[24] }), none⟩, []),
  (⟨5, some 227, (.binOp .eql 3 (.tmp 226) (.const (.int .i64 0)) 3), none⟩, [])]
/-- law.go:65 -/
def p3_54 : Path := [
  (⟨0, some 4, (.assign (.const (.bool false))), none⟩, [])]
/-- law.go:56 -/
def p3_45 : Path := [
  (⟨0, some 171, (.move (.tmp 21)), none⟩, []),
  (⟨1, some 172, (.binOp .add 3 (.tmp 171) (.const (.int .i64 1)) 3), none⟩, []),
  (⟨2, some 21, (.assign (.tmp 172)), none⟩, [])]
/-- law.go:68 -/
def p3_55 : Path := [
  (⟨0, some 24, (.assign (.const (.int .i64 0))), none⟩, [])]
/-- law.go:68 -/
def p3_56 : Path := [
  (⟨0, some 228, (.move (.tmp 24)), none⟩, []),
  (⟨1, some 229, (.move (.tmp 5)), none⟩, []),
  (⟨2, some 230, (.binOp .lss 3 (.tmp 228) (.tmp 229) 3), none⟩, [])]
/-- law.go:69 -/
def p3_58 : Path := [
  (⟨0, some 25, (.assign (.const (.int .i64 0))), none⟩, [])]
/-- law.go:69 -/
def p3_59 : Path := [
  (⟨0, some 233, (.move (.tmp 25)), none⟩, []),
  (⟨1, some 234, (.move (.tmp 5)), none⟩, []),
  (⟨2, some 235, (.binOp .lss 3 (.tmp 233) (.tmp 234) 3), none⟩, [])]
/-- law.go:70 -/
def p3_61 : Path := [
  (⟨0, some 238, (.move (.tmp 19)), none⟩, []),
  (⟨1, some 239, (.move (.tmp 24)), none⟩, []),
  (⟨2, some 240, (.indexAddr 24 (.tmp 238) (.tmp 239)), none⟩, []),
  (⟨3, some 241, (.load 3 (.tmp 240)), none⟩, []),
  (⟨4, some 242, (.move (.tmp 19)), none⟩, []),
  (⟨5, some 243, (.move (.tmp 25)), none⟩, []),
  (⟨6, some 244, (.indexAddr 24 (.tmp 242) (.tmp 243)), none⟩, []),
  (⟨7, some 245, (.load 3 (.tmp 244)), none⟩, []),
  (⟨8, some 246, (.binOp .eql 3 (.tmp 241) (.tmp 245) 3), none⟩, []),
  (⟨9, some 247, (.move (.tmp 11)), none⟩, []),
  (⟨10, some 248, (.move (.tmp 24)), none⟩, []),
  (⟨11, some 249, (.indexAddr 26 (.tmp 247) (.tmp 248)), none⟩, []),
  (⟨12, some 250, (.load 27 (.tmp 249)), none⟩, []),
  (⟨13, some 251, (.move (.tmp 25)), none⟩, []),
  (⟨14, some 252, (.indexAddr 27 (.tmp 250) (.tmp 251)), none⟩, []),
  (⟨15, some 253, (.load 4 (.tmp 252)), none⟩, []),
  (⟨16, some 254, (.move (.tmp 253)), none⟩, []),
  (⟨17, some 255, (.move (.tmp 11)), (some (254, true))⟩, []),
  (⟨18, some 256, (.move (.tmp 25)), (some (254, true))⟩, []),
  (⟨19, some 257, (.indexAddr 26 (.tmp 255) (.tmp 256)), (some (254, true))⟩, []),
  (⟨20, some 258, (.load 27 (.tmp 257)), (some (254, true))⟩, []),
  (⟨21, some 259, (.move (.tmp 24)), (some (254, true))⟩, []),
  (⟨22, some 260, (.indexAddr 27 (.tmp 258) (.tmp 259)), (some (254, true))⟩, []),
  (⟨23, some 261, (.load 4 (.tmp 260)), (some (254, true))⟩, []),
  (⟨24, some 262, (.pick (.tmp 254) (.tmp 261) (.const (.bool false))), none⟩, []),
  (⟨25, some 263, (.binOp .neq 4 (.tmp 246) (.tmp 262) 4), none⟩, []),
  (⟨26, some 264, (.move (.tmp 263)), none⟩, []),
  (⟨27, some 265, (.move (.tmp 11)), (some (264, false))⟩, []),
  (⟨28, some 266, (.move (.tmp 24)), (some (264, false))⟩, []),
  (⟨29, some 267, (.indexAddr 26 (.tmp 265) (.tmp 266)), (some (264, false))⟩, []),
  (⟨30, some 268, (.load 27 (.tmp 267)), (some (264, false))⟩, []),
  (⟨31, some 269, (.move (.tmp 25)), (some (264, false))⟩, []),
  (⟨32, some 270, (.indexAddr 27 (.tmp 268) (.tmp 269)), (some (264, false))⟩, []),
  (⟨33, some 271, (.load 4 (.tmp 270)), (some (264, false))⟩, []),
  (⟨34, some 272, (.move (.tmp 271)), (some (264, false))⟩, []),
  (⟨35, some 273, (.move (.tmp 19)), (some (272, true))⟩, []),
  (⟨36, some 274, (.move (.tmp 25)), (some (272, true))⟩, []),
  (⟨37, some 275, (.indexAddr 24 (.tmp 273) (.tmp 274)), (some (272, true))⟩, []),
  (⟨38, some 276, (.load 3 (.tmp 275)), (some (272, true))⟩, []),
  (⟨39, some 277, (.move (.tmp 19)), (some (272, true))⟩, []),
  (⟨40, some 278, (.move (.tmp 24)), (some (272, true))⟩, []),
  (⟨41, some 279, (.indexAddr 24 (.tmp 277) (.tmp 278)), (some (272, true))⟩, []),
  (⟨42, some 280, (.load 3 (.tmp 279)), (some (272, true))⟩, []),
  (⟨43, some 281, (.binOp .gtr 3 (.tmp 276) (.tmp 280) 3), (some (272, true))⟩, []),
  (⟨44, some 282, (.pick (.tmp 272) (.tmp 281) (.const (.bool false))), (some (264, false))⟩, []),
  (⟨45, some 283, (.pick (.tmp 264) (.const (.bool true)) (.tmp 282)), none⟩, [])]
/-- law.go:71 -/
def p3_62 : Path := [
  (⟨0, some 4, (.assign (.const (.bool false))), none⟩, [])]
/-- law.go:69 -/
def p3_60 : Path := [
  (⟨0, some 236, (.move (.tmp 25)), none⟩, []),
  (⟨1, some 237, (.binOp .add 3 (.tmp 236) (.const (.int .i64 1)) 3), none⟩, []),
  (⟨2, some 25, (.assign (.tmp 237)), none⟩, [])]
/-- law.go:68 -/
def p3_57 : Path := [
  (⟨0, some 231, (.move (.tmp 24)), none⟩, []),
  (⟨1, some 232, (.binOp .add 3 (.tmp 231) (.const (.int .i64 1)) 3), none⟩, []),
  (⟨2, some 24, (.assign (.tmp 232)), none⟩, [])]
/-- law.go:75 -/
def p3_63 : Path := [
  (⟨0, some 284, (.move (.tmp 20)), none⟩, []),
  (⟨1, some 285, (.move (.tmp 5)), none⟩, []),
  (⟨2, some 286, (.binOp .eql 3 (.tmp 284) (.tmp 285) 3), none⟩, []),
  (⟨3, some 4, (.assign (.tmp 286)), none⟩, [])]

def c3 : SCode :=
 (.seq (.reg 1 [0, 1, 4, 5, 6, 7, 8, 9, 10, 11, 12, 13, 14, 15, 16, 17, 18, 19, 20, 21, 22, 23, 24, 25] p3_0)
 (.seq (.seq (.reg 7 [0, 1, 4, 5, 6, 7, 8, 9, 10, 11, 12, 13, 14, 15, 16, 17, 18, 19, 20, 21, 22, 23, 24, 25, 32] p3_1)
  (.cond 32 false
   (.seq (.reg 2 [0, 1, 4, 5, 6, 7, 8, 9, 10, 11, 12, 13, 14, 15, 16, 17, 18, 19, 20, 21, 22, 23, 24, 25] p3_2)
    .ret)
   .skip))
 (.seq (.reg 3 [0, 1, 4, 5, 6, 7, 8, 9, 10, 11, 12, 13, 14, 15, 16, 17, 18, 19, 20, 21, 22, 23, 24, 25] p3_3)
 (.seq (.reg 1 [0, 1, 4, 5, 6, 7, 8, 9, 10, 11, 12, 13, 14, 15, 16, 17, 18, 19, 20, 21, 22, 23, 24, 25] p3_4)
 (.seq (.seq (.reg 1 [0, 1, 4, 5, 6, 7, 8, 9, 10, 11, 12, 13, 14, 15, 16, 17, 18, 19, 20, 21, 22, 23, 24, 25] p3_5)
  (.block 0
   (.loop
     (.seq (.seq (.reg 3 [0, 1, 4, 5, 6, 7, 8, 9, 10, 11, 12, 13, 14, 15, 16, 17, 18, 19, 20, 21, 22, 23, 24, 25, 38] p3_6)
       (.cond 38 false
        .skip
        (.exit 0)))
      (.seq (.block 1
        (.seq (.seq (.reg 6 [0, 1, 4, 5, 6, 7, 8, 9, 10, 11, 12, 13, 14, 15, 16, 17, 18, 19, 20, 21, 22, 23, 24, 25, 46] p3_8)
          (.cond 46 false
           (.seq (.reg 1 [0, 1, 4, 5, 6, 7, 8, 9, 10, 11, 12, 13, 14, 15, 16, 17, 18, 19, 20, 21, 22, 23, 24, 25] p3_9)
            .ret)
           .skip))
         (.seq (.reg 1 [0, 1, 4, 5, 6, 7, 8, 9, 10, 11, 12, 13, 14, 15, 16, 17, 18, 19, 20, 21, 22, 23, 24, 25] p3_10)
         (.seq (.seq (.reg 1 [0, 1, 4, 5, 6, 7, 8, 9, 10, 11, 12, 13, 14, 15, 16, 17, 18, 19, 20, 21, 22, 23, 24, 25] p3_11)
          (.block 2
           (.loop
             (.seq (.seq (.reg 7 [0, 1, 4, 5, 6, 7, 8, 9, 10, 11, 12, 13, 14, 15, 16, 17, 18, 19, 20, 21, 22, 23, 24, 25, 53] p3_12)
               (.cond 53 false
                .skip
                (.exit 2)))
              (.seq (.block 3
                (.seq (.reg 8 [0, 1, 4, 5, 6, 7, 8, 9, 10, 11, 12, 13, 14, 15, 16, 17, 18, 19, 20, 21, 22, 23, 24, 25] p3_14)
                 (.seq (.seq (.reg 1 [0, 1, 4, 5, 6, 7, 8, 9, 10, 11, 12, 13, 14, 15, 16, 17, 18, 19, 20, 21, 22, 23, 24, 25, 63] p3_15)
                  (.cond 63 false
                   (.reg 7 [0, 1, 4, 5, 6, 7, 8, 9, 10, 11, 12, 13, 14, 15, 16, 17, 18, 19, 20, 21, 22, 23, 24, 25] p3_16)
                   .skip))
                 (.reg 5 [0, 1, 4, 5, 6, 7, 8, 9, 10, 11, 12, 13, 14, 15, 16, 17, 18, 19, 20, 21, 22, 23, 24, 25] p3_17))))
              (.reg 3 [0, 1, 4, 5, 6, 7, 8, 9, 10, 11, 12, 13, 14, 15, 16, 17, 18, 19, 20, 21, 22, 23, 24, 25] p3_13))))))
         (.reg 5 [0, 1, 4, 5, 6, 7, 8, 9, 10, 11, 12, 13, 14, 15, 16, 17, 18, 19, 20, 21, 22, 23, 24, 25] p3_18)))))
      (.reg 3 [0, 1, 4, 5, 6, 7, 8, 9, 10, 11, 12, 13, 14, 15, 16, 17, 18, 19, 20, 21, 22, 23, 24, 25] p3_7))))))
 (.seq (.reg 3 [0, 1, 4, 5, 6, 7, 8, 9, 10, 11, 12, 13, 14, 15, 16, 17, 18, 19, 20, 21, 22, 23, 24, 25] p3_19)
 (.seq (.seq (.reg 1 [0, 1, 4, 5, 6, 7, 8, 9, 10, 11, 12, 13, 14, 15, 16, 17, 18, 19, 20, 21, 22, 23, 24, 25] p3_20)
  (.block 4
   (.loop
     (.seq (.seq (.reg 3 [0, 1, 4, 5, 6, 7, 8, 9, 10, 11, 12, 13, 14, 15, 16, 17, 18, 19, 20, 21, 22, 23, 24, 25, 82] p3_21)
       (.cond 82 false
        .skip
        (.exit 4)))
      (.seq (.block 5
        (.seq (.reg 6 [0, 1, 4, 5, 6, 7, 8, 9, 10, 11, 12, 13, 14, 15, 16, 17, 18, 19, 20, 21, 22, 23, 24, 25] p3_23)
         (.reg 7 [0, 1, 4, 5, 6, 7, 8, 9, 10, 11, 12, 13, 14, 15, 16, 17, 18, 19, 20, 21, 22, 23, 24, 25] p3_24)))
      (.reg 3 [0, 1, 4, 5, 6, 7, 8, 9, 10, 11, 12, 13, 14, 15, 16, 17, 18, 19, 20, 21, 22, 23, 24, 25] p3_22))))))
 (.seq (.seq (.reg 1 [0, 1, 4, 5, 6, 7, 8, 9, 10, 11, 12, 13, 14, 15, 16, 17, 18, 19, 20, 21, 22, 23, 24, 25] p3_25)
  (.block 6
   (.loop
     (.seq (.seq (.reg 3 [0, 1, 4, 5, 6, 7, 8, 9, 10, 11, 12, 13, 14, 15, 16, 17, 18, 19, 20, 21, 22, 23, 24, 25, 98] p3_26)
       (.cond 98 false
        .skip
        (.exit 6)))
      (.seq (.block 7
        (.seq (.reg 1 [0, 1, 4, 5, 6, 7, 8, 9, 10, 11, 12, 13, 14, 15, 16, 17, 18, 19, 20, 21, 22, 23, 24, 25] p3_28)
         (.block 8
          (.loop
            (.seq (.seq (.reg 3 [0, 1, 4, 5, 6, 7, 8, 9, 10, 11, 12, 13, 14, 15, 16, 17, 18, 19, 20, 21, 22, 23, 24, 25, 103] p3_29)
              (.cond 103 false
               .skip
               (.exit 8)))
             (.seq (.block 9
               (.seq (.reg 1 [0, 1, 4, 5, 6, 7, 8, 9, 10, 11, 12, 13, 14, 15, 16, 17, 18, 19, 20, 21, 22, 23, 24, 25] p3_31)
                (.block 10
                 (.loop
                   (.seq (.seq (.reg 7 [0, 1, 4, 5, 6, 7, 8, 9, 10, 11, 12, 13, 14, 15, 16, 17, 18, 19, 20, 21, 22, 23, 24, 25, 112] p3_32)
                     (.cond 112 false
                      .skip
                      (.exit 10)))
                    (.seq (.block 11
                      (.seq (.reg 8 [0, 1, 4, 5, 6, 7, 8, 9, 10, 11, 12, 13, 14, 15, 16, 17, 18, 19, 20, 21, 22, 23, 24, 25] p3_34)
                       (.seq (.reg 1 [0, 1, 4, 5, 6, 7, 8, 9, 10, 11, 12, 13, 14, 15, 16, 17, 18, 19, 20, 21, 22, 23, 24, 25] p3_35)
                       (.block 12
                        (.loop
                          (.seq (.seq (.reg 12 [0, 1, 4, 5, 6, 7, 8, 9, 10, 11, 12, 13, 14, 15, 16, 17, 18, 19, 20, 21, 22, 23, 24, 25, 133] p3_36)
                            (.cond 133 false
                             .skip
                             (.exit 12)))
                           (.seq (.block 13
                             (.reg 23 [0, 1, 4, 5, 6, 7, 8, 9, 10, 11, 12, 13, 14, 15, 16, 17, 18, 19, 20, 21, 22, 23, 24, 25] p3_38))
                           (.reg 3 [0, 1, 4, 5, 6, 7, 8, 9, 10, 11, 12, 13, 14, 15, 16, 17, 18, 19, 20, 21, 22, 23, 24, 25] p3_37))))))))
                    (.reg 3 [0, 1, 4, 5, 6, 7, 8, 9, 10, 11, 12, 13, 14, 15, 16, 17, 18, 19, 20, 21, 22, 23, 24, 25] p3_33)))))))
             (.reg 3 [0, 1, 4, 5, 6, 7, 8, 9, 10, 11, 12, 13, 14, 15, 16, 17, 18, 19, 20, 21, 22, 23, 24, 25] p3_30)))))))
      (.reg 3 [0, 1, 4, 5, 6, 7, 8, 9, 10, 11, 12, 13, 14, 15, 16, 17, 18, 19, 20, 21, 22, 23, 24, 25] p3_27))))))
 (.seq (.reg 7 [0, 1, 4, 5, 6, 7, 8, 9, 10, 11, 12, 13, 14, 15, 16, 17, 18, 19, 20, 21, 22, 23, 24, 25] p3_39)
 (.seq (.seq (.reg 4 [0, 1, 4, 5, 6, 7, 8, 9, 10, 11, 12, 13, 14, 15, 16, 17, 18, 19, 20, 21, 22, 23, 24, 25, 166] p3_40)
  (.cond 166 false
   (.seq (.reg 1 [0, 1, 4, 5, 6, 7, 8, 9, 10, 11, 12, 13, 14, 15, 16, 17, 18, 19, 20, 21, 22, 23, 24, 25] p3_41)
    .ret)
   .skip))
 (.seq (.reg 1 [0, 1, 4, 5, 6, 7, 8, 9, 10, 11, 12, 13, 14, 15, 16, 17, 18, 19, 20, 21, 22, 23, 24, 25] p3_42)
 (.seq (.seq (.reg 1 [0, 1, 4, 5, 6, 7, 8, 9, 10, 11, 12, 13, 14, 15, 16, 17, 18, 19, 20, 21, 22, 23, 24, 25] p3_43)
  (.block 14
   (.loop
     (.seq (.seq (.reg 4 [0, 1, 4, 5, 6, 7, 8, 9, 10, 11, 12, 13, 14, 15, 16, 17, 18, 19, 20, 21, 22, 23, 24, 25, 170] p3_44)
       (.cond 170 false
        .skip
        (.exit 14)))
      (.seq (.block 15
        (.seq (.seq (.reg 1 [0, 1, 4, 5, 6, 7, 8, 9, 10, 11, 12, 13, 14, 15, 16, 17, 18, 19, 20, 21, 22, 23, 24, 25] p3_46)
          (.block 16
           (.loop
             (.seq (.seq (.reg 7 [0, 1, 4, 5, 6, 7, 8, 9, 10, 11, 12, 13, 14, 15, 16, 17, 18, 19, 20, 21, 22, 23, 24, 25, 179] p3_47)
               (.cond 179 false
                .skip
                (.exit 16)))
              (.seq (.block 17
                (.seq (.reg 8 [0, 1, 4, 5, 6, 7, 8, 9, 10, 11, 12, 13, 14, 15, 16, 17, 18, 19, 20, 21, 22, 23, 24, 25] p3_49)
                 (.seq (.seq (.reg 31 [0, 1, 4, 5, 6, 7, 8, 9, 10, 11, 12, 13, 14, 15, 16, 17, 18, 19, 20, 21, 22, 23, 24, 25, 219] p3_50)
                  (.cond 219 false
                   (.seq (.reg 1 [0, 1, 4, 5, 6, 7, 8, 9, 10, 11, 12, 13, 14, 15, 16, 17, 18, 19, 20, 21, 22, 23, 24, 25] p3_51)
                    .ret)
                   .skip))
                 (.reg 3 [0, 1, 4, 5, 6, 7, 8, 9, 10, 11, 12, 13, 14, 15, 16, 17, 18, 19, 20, 21, 22, 23, 24, 25] p3_52))))
              (.reg 3 [0, 1, 4, 5, 6, 7, 8, 9, 10, 11, 12, 13, 14, 15, 16, 17, 18, 19, 20, 21, 22, 23, 24, 25] p3_48))))))
         (.seq (.reg 6 [0, 1, 4, 5, 6, 7, 8, 9, 10, 11, 12, 13, 14, 15, 16, 17, 18, 19, 20, 21, 22, 23, 24, 25, 227] p3_53)
         (.cond 227 false
          (.seq (.reg 1 [0, 1, 4, 5, 6, 7, 8, 9, 10, 11, 12, 13, 14, 15, 16, 17, 18, 19, 20, 21, 22, 23, 24, 25] p3_54)
           .ret)
          .skip))))
      (.reg 3 [0, 1, 4, 5, 6, 7, 8, 9, 10, 11, 12, 13, 14, 15, 16, 17, 18, 19, 20, 21, 22, 23, 24, 25] p3_45))))))
 (.seq (.seq (.reg 1 [0, 1, 4, 5, 6, 7, 8, 9, 10, 11, 12, 13, 14, 15, 16, 17, 18, 19, 20, 21, 22, 23, 24, 25] p3_55)
  (.block 18
   (.loop
     (.seq (.seq (.reg 3 [0, 1, 4, 5, 6, 7, 8, 9, 10, 11, 12, 13, 14, 15, 16, 17, 18, 19, 20, 21, 22, 23, 24, 25, 230] p3_56)
       (.cond 230 false
        .skip
        (.exit 18)))
      (.seq (.block 19
        (.seq (.reg 1 [0, 1, 4, 5, 6, 7, 8, 9, 10, 11, 12, 13, 14, 15, 16, 17, 18, 19, 20, 21, 22, 23, 24, 25] p3_58)
         (.block 20
          (.loop
            (.seq (.seq (.reg 3 [0, 1, 4, 5, 6, 7, 8, 9, 10, 11, 12, 13, 14, 15, 16, 17, 18, 19, 20, 21, 22, 23, 24, 25, 235] p3_59)
              (.cond 235 false
               .skip
               (.exit 20)))
             (.seq (.block 21
               (.seq (.reg 46 [0, 1, 4, 5, 6, 7, 8, 9, 10, 11, 12, 13, 14, 15, 16, 17, 18, 19, 20, 21, 22, 23, 24, 25, 283] p3_61)
                (.cond 283 false
                 (.seq (.reg 1 [0, 1, 4, 5, 6, 7, 8, 9, 10, 11, 12, 13, 14, 15, 16, 17, 18, 19, 20, 21, 22, 23, 24, 25] p3_62)
                  .ret)
                 .skip)))
             (.reg 3 [0, 1, 4, 5, 6, 7, 8, 9, 10, 11, 12, 13, 14, 15, 16, 17, 18, 19, 20, 21, 22, 23, 24, 25] p3_60)))))))
      (.reg 3 [0, 1, 4, 5, 6, 7, 8, 9, 10, 11, 12, 13, 14, 15, 16, 17, 18, 19, 20, 21, 22, 23, 24, 25] p3_57))))))
 (.seq (.reg 4 [0, 1, 4, 5, 6, 7, 8, 9, 10, 11, 12, 13, 14, 15, 16, 17, 18, 19, 20, 21, 22, 23, 24, 25] p3_63)
 .ret))))))))))))))

theorem s3 : strip Try.prog 287 [0, 1, 4, 5, 6, 7, 8, 9, 10, 11, 12, 13, 14, 15, 16, 17, 18, 19, 20, 21, 22, 23, 24, 25] [32, 38, 46, 53, 63, 82, 98, 103, 112, 133, 166, 170, 179, 219, 227, 230, 235, 283] (Try.f3.body.getD .skip) = c3 := by kernel_rfl
theorem b3 : Try.f3.body = some (Try.f3.body.getD .skip) := by kernel_rfl
theorem n3 : (Try.f3.name == "runtime.NumGoroutine") = false := by kernel_rfl
theorem m3 : Try.f3.ntmps = 287 := by kernel_rfl
theorem r3 : Try.f3.results.toList = [.tmp 4] := by kernel_rfl
/-- The walk begins. -/
theorem enter3 {args : List Value} {h : AHeap} {Q : Value → AHeap → Prop} (hr : SW Try.prog 287 c3 (params args) h (retQ Try.prog [.tmp 4] Q)) : ACallW Try.prog 3 args h Q :=
  acall_intro Try.func3 b3 n3 r3 s3 hr

end Go.Proofs.Ytbcgcnmnblfhmaa
