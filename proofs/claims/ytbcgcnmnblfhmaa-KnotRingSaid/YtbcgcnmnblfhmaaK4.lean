/- The code of function 4, weathervane/weathervanelaw16.KnotRing, each region as one path. Written by gen.py. -/
import Derived.Test.YtbcgcnmnblfhmaaLin15
import Derived.Test.YtbcgcnmnblfhmaaProg
import Derived.KernelRfl
namespace Go.Proofs.Ytbcgcnmnblfhmaa
open Lin

/-- law.go:79 -/
def p4_0 : Path := [
  (⟨0, some 4, (.assign (.const (.bool false))), none⟩, [])]
/-- law.go:80 -/
def p4_1 : Path := [
  (⟨0, some 11, (.call { callee := (.value (.func 8)), args := #[], argTypes := #[] }), none⟩, []),
  (⟨1, some 12, (.unOp .not 4 (.tmp 11)), none⟩, [])]
/-- law.go:81 -/
def p4_2 : Path := [
  (⟨0, some 4, (.assign (.const (.bool false))), none⟩, [])]
/-- law.go:83 -/
def p4_3 : Path := [
  (⟨0, some 13, (.move (.tmp 0)), none⟩, []),
  (⟨1, some 14, (.convert 31 3 (.tmp 13)), none⟩, []),
  (⟨2, some 15, (.binOp .rem 3 (.tmp 14) (.const (.int .i64 3000)) 3), none⟩, []),
  (⟨3, some 16, (.binOp .add 3 (.const (.int .i64 1)) (.tmp 15) 3), none⟩, []),
  (⟨4, some 5, (.assign (.tmp 16)), none⟩, [])]
/-- law.go:84 -/
def p4_4 : Path := [
  (⟨0, some 17, (.move (.tmp 5)), none⟩, []),
  (⟨1, some 18, (.makeSlice 22 (.tmp 17) (.tmp 17)), none⟩, []),
  (⟨2, some 6, (.assign (.tmp 18)), none⟩, [])]
/-- law.go:85 -/
def p4_5 : Path := [
  (⟨0, some 7, (.assign (.const (.int .i64 1))), none⟩, [])]
/-- law.go:85 -/
def p4_6 : Path := [
  (⟨0, some 19, (.move (.tmp 7)), none⟩, []),
  (⟨1, some 20, (.move (.tmp 5)), none⟩, []),
  (⟨2, some 21, (.binOp .lss 3 (.tmp 19) (.tmp 20) 3), none⟩, [])]
/-- law.go:86 -/
def p4_8 : Path := [
  (⟨0, some 24, (.move (.tmp 6)), none⟩, []),
  (⟨1, some 25, (.move (.tmp 7)), none⟩, []),
  (⟨2, some 26, (.move (.tmp 7)), none⟩, []),
  (⟨3, some 27, (.binOp .sub 3 (.tmp 26) (.const (.int .i64 1)) 3), none⟩, []),
  (⟨4, some 28, (.buildSlice 24 1 #[(0, (.tmp 27))]), none⟩, []),
  (⟨5, some 29, (.indexAddr 22 (.tmp 24) (.tmp 25)), none⟩, []),
  (⟨6, none, (.store 24 (.tmp 29) (.tmp 28)), none⟩, [])]
/-- law.go:85 -/
def p4_7 : Path := [
  (⟨0, some 22, (.move (.tmp 7)), none⟩, []),
  (⟨1, some 23, (.binOp .add 3 (.tmp 22) (.const (.int .i64 1)) 3), none⟩, []),
  (⟨2, some 7, (.assign (.tmp 23)), none⟩, [])]
/-- law.go:88 -/
def p4_9 : Path := [
  (⟨0, some 30, (.move (.tmp 1)), none⟩, [])]
/-- law.go:89 -/
def p4_10 : Path := [
  (⟨0, some 31, (.move (.tmp 6)), none⟩, []),
  (⟨1, some 32, (.move (.tmp 5)), none⟩, []),
  (⟨2, some 33, (.binOp .sub 3 (.tmp 32) (.const (.int .i64 1)) 3), none⟩, []),
  (⟨3, some 34, (.buildSlice 24 1 #[(0, (.tmp 33))]), none⟩, []),
  (⟨4, some 35, (.indexAddr 22 (.tmp 31) (.const (.int .i64 0))), none⟩, []),
  (⟨5, none, (.store 24 (.tmp 35) (.tmp 34)), none⟩, [])]
/-- law.go:91 -/
def p4_11 : Path := [
  (⟨0, some 37, (.move (.tmp 6)), none⟩, []),
  (⟨1, some 38, (.call { callee := (.value (.func 9)), args := #[(.tmp 37)], argTypes := #[22] }), none⟩, []),
  (⟨2, some 36, (.move (.tmp 38)), none⟩, []),
  (⟨3, some 39, (.extract (.tmp 36) 0), none⟩, []),
  (⟨4, some 40, (.extract (.tmp 36) 1), none⟩, []),
  (⟨5, some 8, (.assign (.tmp 39)), none⟩, []),
  (⟨6, some 9, (.assign (.tmp 40)), none⟩, [])]
/-- law.go:92 -/
def p4_12 : Path := [
  (⟨0, some 41, (.move (.tmp 1)), none⟩, [])]
/-- law.go:93 -/
def p4_13 : Path := [
  (⟨0, some 42, (.move (.tmp 8)), none⟩, []),
  (⟨1, some 43, (.call { callee := (.builtin .len), args := #[(.tmp 42)], argTypes := #[22] }), none⟩, []),
  (⟨2, some 44, (.binOp .eql 3 (.tmp 43) (.const (.int .i64 1)) 3), none⟩, []),
  (⟨3, some 45, (.move (.tmp 44)), none⟩, []),
  (⟨4, some 46, (.move (.tmp 8)), (some (45, true))⟩, []),
  (⟨5, some 47, (.indexAddr 22 (.tmp 46) (.const (.int .i64 0))), (some (45, true))⟩, []),
  (⟨6, some 48, (.load 24 (.tmp 47)), (some (45, true))⟩, []),
  (⟨7, some 49, (.call { callee := (.builtin .len), args := #[(.tmp 48)], argTypes := #[24] }), (some (45, true))⟩, []),
  (⟨8, some 50, (.move (.tmp 5)), (some (45, true))⟩, []),
  (⟨9, some 51, (.binOp .eql 3 (.tmp 49) (.tmp 50) 3), (some (45, true))⟩, []),
  (⟨10, some 52, (.pick (.tmp 45) (.tmp 51) (.const (.bool false))), none⟩, []),
  (⟨11, some 53, (.move (.tmp 52)), none⟩, []),
  (⟨12, some 54, (.move (.tmp 9)), (some (53, true))⟩, []),
  (⟨13, some 55, (.move (.tmp 5)), (some (53, true))⟩, []),
  (⟨14, some 56, (.binOp .sub 3 (.tmp 55) (.const (.int .i64 1)) 3), (some (53, true))⟩, []),
  (⟨15, some 57, (.indexAddr 24 (.tmp 54) (.tmp 56)), (some (53, true))⟩, []),
  (⟨16, some 58, (.load 3 (.tmp 57)), (some (53, true))⟩, []),
  (⟨17, some 59, (.binOp .eql 3 (.tmp 58) (.const (.int .i64 0)) 3), (some (53, true))⟩, []),
  (⟨18, some 60, (.pick (.tmp 53) (.tmp 59) (.const (.bool false))), none⟩, []),
  (⟨19, some 4, (.assign (.tmp 60)), none⟩, [])]
/-- law.go:95 -/
def p4_14 : Path := [
  (⟨0, some 10, (.assign (.const (.int .i64 0))), none⟩, [])]
/-- law.go:95 -/
def p4_15 : Path := [
  (⟨0, some 61, (.move (.tmp 10)), none⟩, []),
  (⟨1, some 62, (.move (.tmp 5)), none⟩, []),
  (⟨2, some 63, (.binOp .lss 3 (.tmp 61) (.tmp 62) 3), none⟩, [])]
/-- law.go:96 -/
def p4_17 : Path := [
  (⟨0, some 66, (.move (.tmp 9)), none⟩, []),
  (⟨1, some 67, (.move (.tmp 10)), none⟩, []),
  (⟨2, some 68, (.indexAddr 24 (.tmp 66) (.tmp 67)), none⟩, []),
  (⟨3, some 69, (.load 3 (.tmp 68)), none⟩, []),
  (⟨4, some 70, (.move (.tmp 10)), none⟩, []),
  (⟨5, some 71, (.binOp .neq 3 (.tmp 69) (.tmp 70) 3), none⟩, []),
  (⟨6, some 72, (.move (.tmp 71)), none⟩, []),
  (⟨7, some 73, (.move (.tmp 8)), (some (72, false))⟩, []),
  (⟨8, some 74, (.call { callee := (.builtin .len), args := #[(.tmp 73)], argTypes := #[22] }), (some (72, false))⟩, []),
  (⟨9, some 75, (.move (.tmp 5)), (some (72, false))⟩, []),
  (⟨10, some 76, (.binOp .neq 3 (.tmp 74) (.tmp 75) 3), (some (72, false))⟩, []),
  (⟨11, some 77, (.pick (.tmp 72) (.const (.bool true)) (.tmp 76)), none⟩, []),
  (⟨12, some 78, (.move (.tmp 77)), none⟩, []),
  (⟨13, some 79, (.move (.tmp 8)), (some (78, false))⟩, []),
  (⟨14, some 80, (.move (.tmp 10)), (some (78, false))⟩, []),
  (⟨15, some 81, (.indexAddr 22 (.tmp 79) (.tmp 80)), (some (78, false))⟩, []),
  (⟨16, some 82, (.load 24 (.tmp 81)), (some (78, false))⟩, []),
  (⟨17, some 83, (.call { callee := (.builtin .len), args := #[(.tmp 82)], argTypes := #[24] }), (some (78, false))⟩, []),
  (⟨18, some 84, (.binOp .neq 3 (.tmp 83) (.const (.int .i64 1)) 3), (some (78, false))⟩, []),
  (⟨19, some 85, (.pick (.tmp 78) (.const (.bool true)) (.tmp 84)), none⟩, [])]
/-- law.go:97 -/
def p4_18 : Path := [
  (⟨0, some 4, (.assign (.const (.bool false))), none⟩, [])]
/-- law.go:95 -/
def p4_16 : Path := [
  (⟨0, some 64, (.move (.tmp 10)), none⟩, []),
  (⟨1, some 65, (.binOp .add 3 (.tmp 64) (.const (.int .i64 1)) 3), none⟩, []),
  (⟨2, some 10, (.assign (.tmp 65)), none⟩, [])]
/-- law.go:100 -/
def p4_19 : Path := [
  (⟨0, some 4, (.assign (.const (.bool true))), none⟩, [])]

def c4 : SCode :=
 (.seq (.reg 1 [0, 1, 4, 5, 6, 7, 8, 9, 10] p4_0)
 (.seq (.seq (.reg 2 [0, 1, 4, 5, 6, 7, 8, 9, 10, 12] p4_1)
  (.cond 12 false
   (.seq (.reg 1 [0, 1, 4, 5, 6, 7, 8, 9, 10] p4_2)
    .ret)
   .skip))
 (.seq (.reg 5 [0, 1, 4, 5, 6, 7, 8, 9, 10] p4_3)
 (.seq (.reg 3 [0, 1, 4, 5, 6, 7, 8, 9, 10] p4_4)
 (.seq (.seq (.reg 1 [0, 1, 4, 5, 6, 7, 8, 9, 10] p4_5)
  (.block 0
   (.loop
     (.seq (.seq (.reg 3 [0, 1, 4, 5, 6, 7, 8, 9, 10, 21] p4_6)
       (.cond 21 false
        .skip
        (.exit 0)))
      (.seq (.block 1
        (.reg 7 [0, 1, 4, 5, 6, 7, 8, 9, 10] p4_8))
      (.reg 3 [0, 1, 4, 5, 6, 7, 8, 9, 10] p4_7))))))
 (.seq (.seq (.reg 1 [0, 1, 4, 5, 6, 7, 8, 9, 10, 30] p4_9)
  (.cond 30 false
   (.reg 6 [0, 1, 4, 5, 6, 7, 8, 9, 10] p4_10)
   .skip))
 (.seq (.reg 7 [0, 1, 4, 5, 6, 7, 8, 9, 10] p4_11)
 (.seq (.seq (.reg 1 [0, 1, 4, 5, 6, 7, 8, 9, 10, 41] p4_12)
  (.cond 41 false
   (.seq (.reg 20 [0, 1, 4, 5, 6, 7, 8, 9, 10] p4_13)
    .ret)
   .skip))
 (.seq (.seq (.reg 1 [0, 1, 4, 5, 6, 7, 8, 9, 10] p4_14)
  (.block 2
   (.loop
     (.seq (.seq (.reg 3 [0, 1, 4, 5, 6, 7, 8, 9, 10, 63] p4_15)
       (.cond 63 false
        .skip
        (.exit 2)))
      (.seq (.block 3
        (.seq (.reg 20 [0, 1, 4, 5, 6, 7, 8, 9, 10, 85] p4_17)
         (.cond 85 false
          (.seq (.reg 1 [0, 1, 4, 5, 6, 7, 8, 9, 10] p4_18)
           .ret)
          .skip)))
      (.reg 3 [0, 1, 4, 5, 6, 7, 8, 9, 10] p4_16))))))
 (.seq (.reg 1 [0, 1, 4, 5, 6, 7, 8, 9, 10] p4_19)
 .ret))))))))))

theorem s4 : strip Try.prog 86 [0, 1, 4, 5, 6, 7, 8, 9, 10] [12, 21, 30, 41, 63, 85] (Try.f4.body.getD .skip) = c4 := by kernel_rfl
theorem b4 : Try.f4.body = some (Try.f4.body.getD .skip) := by kernel_rfl
theorem n4 : (Try.f4.name == "runtime.NumGoroutine") = false := by kernel_rfl
theorem m4 : Try.f4.ntmps = 86 := by kernel_rfl
theorem r4 : Try.f4.results.toList = [.tmp 4] := by kernel_rfl
/-- The walk begins. -/
theorem enter4 {args : List Value} {h : AHeap} {Q : Value → AHeap → Prop} (hr : SW Try.prog 86 c4 (params args) h (retQ Try.prog [.tmp 4] Q)) : ACallW Try.prog 4 args h Q :=
  acall_intro Try.func4 b4 n4 r4 s4 hr

end Go.Proofs.Ytbcgcnmnblfhmaa
