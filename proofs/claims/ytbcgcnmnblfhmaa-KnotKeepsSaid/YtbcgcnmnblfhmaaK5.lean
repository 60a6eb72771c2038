/- The code of function 5, weathervane/weathervanelaw16.KnotKeeps, each region as one path. Written by gen.py. -/
import Derived.Test.YtbcgcnmnblfhmaaLin15
import Derived.Test.YtbcgcnmnblfhmaaProg
import Derived.KernelRfl
namespace Go.Proofs.Ytbcgcnmnblfhmaa
open Lin

/-- law.go:104 -/
def p5_0 : Path := [
  (⟨0, some 2, (.assign (.const (.bool false))), none⟩, [])]
/-- law.go:105 -/
def p5_1 : Path := [
  (⟨0, some 9, (.call { callee := (.value (.func 8)), args := #[], argTypes := #[] }), none⟩, []),
  (⟨1, some 10, (.unOp .not 4 (.tmp 9)), none⟩, []),
  (⟨2, some 11, (.move (.tmp 10)), none⟩, []),
  (⟨3, some 12, (.move (.tmp 0)), (some (11, false))⟩, []),
  (⟨4, some 13, (.call { callee := (.builtin .len), args := #[(.tmp 12)], argTypes := #[22] }), (some (11, false))⟩, []),
  (⟨5, some 14, (.binOp .gtr 3 (.tmp 13) (.const (.int .i64 20)) 3), (some (11, false))⟩, []),
  (⟨6, some 15, (.pick (.tmp 11) (.const (.bool true)) (.tmp 14)), none⟩, [])]
/-- law.go:106 -/
def p5_2 : Path := [
  (⟨0, some 16, (.call { callee := (.value (.func 8)), args := #[], argTypes := #[] }), none⟩, []),
  (⟨1, some 2, (.assign (.tmp 16)), none⟩, [])]
/-- law.go:108 -/
def p5_3 : Path := [
  (⟨0, some 3, (.assign (.const (.slice none 0 0))), none⟩, [])]
/-- law.go:109 -/
def p5_4 : Path := [
  (⟨0, some 4, (.assign (.const (.int .i64 0))), none⟩, [])]
/-- law.go:109 -/
def p5_5 : Path := [
  (⟨0, some 17, (.move (.tmp 4)), none⟩, []),
  (⟨1, some 18, (.move (.tmp 0)), none⟩, []),
  (⟨2, some 19, (.call { callee := (.builtin .len), args := #[(.tmp 18)], argTypes := #[22] }), none⟩, []),
  (⟨3, some 20, (.binOp .lss 3 (.tmp 17) (.tmp 19) 3), none⟩, [])]
/-- law.go:110 -/
def p5_7 : Path := [
  (⟨0, some 23, (.move (.tmp 0)), none⟩, []),
  (⟨1, some 24, (.move (.tmp 4)), none⟩, []),
  (⟨2, some 25, (.indexAddr 22 (.tmp 23) (.tmp 24)), none⟩, []),
  (⟨3, some 26, (.load 24 (.tmp 25)), none⟩, []),
  (⟨4, some 27, (.call { callee := (.builtin .len), args := #[(.tmp 26)], argTypes := #[24] }), none⟩, []),
  (⟨5, some 28, (.binOp .gtr 3 (.tmp 27) (.const (.int .i64 30)) 3), none⟩, [])]
/-- law.go:111 -/
def p5_8 : Path := [
  (⟨0, some 2, (.assign (.const (.bool true))), none⟩, [])]
/-- law.go:113 -/
def p5_9 : Path := [
  (⟨0, some 29, (.move (.tmp 3)), none⟩, []),
  (⟨1, some 30, (.move (.tmp 0)), none⟩, []),
  (⟨2, some 31, (.move (.tmp 4)), none⟩, []),
  (⟨3, some 32, (.indexAddr 22 (.tmp 30) (.tmp 31)), none⟩, []),
  (⟨4, some 33, (.load 24 (.tmp 32)), none⟩, []),
  (⟨5, some 34, (.call { callee := (.builtin .append), args := #[(.const (.slice none 0 0)), (.tmp 33)], argTypes := #[24, 24] }), none⟩, []),
  (⟨6, some 35, (.buildSlice 22 1 #[(0, (.tmp 34))]), none⟩, []),
  (⟨7, some 36, (.call { callee := (.builtin .append), args := #[(.tmp 29), (.tmp 35)], argTypes := #[22, 22] }), none⟩, []),
  (⟨8, some 3, (.assign (.tmp 36)), none⟩, [])]
/-- law.go:109 -/
def p5_6 : Path := [
  (⟨0, some 21, (.move (.tmp 4)), none⟩, []),
  (⟨1, some 22, (.binOp .add 3 (.tmp 21) (.const (.int .i64 1)) 3), none⟩, []),
  (⟨2, some 4, (.assign (.tmp 22)), none⟩, [])]
/-- law.go:115 -/
def p5_10 : Path := [
  (⟨0, some 37, (.move (.tmp 0)), none⟩, []),
  (⟨1, some 38, (.call { callee := (.value (.func 9)), args := #[(.tmp 37)], argTypes := #[22] }), none⟩, [])]
/-- law.go:116 -/
def p5_11 : Path := [
  (⟨0, some 5, (.assign (.const (.int .i64 0))), none⟩, [])]
/-- law.go:116 -/
def p5_12 : Path := [
  (⟨0, some 39, (.move (.tmp 5)), none⟩, []),
  (⟨1, some 40, (.move (.tmp 0)), none⟩, []),
  (⟨2, some 41, (.call { callee := (.builtin .len), args := #[(.tmp 40)], argTypes := #[22] }), none⟩, []),
  (⟨3, some 42, (.binOp .lss 3 (.tmp 39) (.tmp 41) 3), none⟩, [])]
/-- law.go:117 -/
def p5_14 : Path := [
  (⟨0, some 6, (.assign (.const (.int .i64 0))), none⟩, [])]
/-- law.go:117 -/
def p5_15 : Path := [
  (⟨0, some 45, (.move (.tmp 6)), none⟩, []),
  (⟨1, some 46, (.move (.tmp 0)), none⟩, []),
  (⟨2, some 47, (.move (.tmp 5)), none⟩, []),
  (⟨3, some 48, (.indexAddr 22 (.tmp 46) (.tmp 47)), none⟩, []),
  (⟨4, some 49, (.load 24 (.tmp 48)), none⟩, []),
  (⟨5, some 50, (.call { callee := (.builtin .len), args := #[(.tmp 49)], argTypes := #[24] }), none⟩, []),
  (⟨6, some 51, (.binOp .lss 3 (.tmp 45) (.tmp 50) 3), none⟩, [])]
/-- law.go:118 -/
def p5_17 : Path := [
  (⟨0, some 54, (.move (.tmp 0)), none⟩, []),
  (⟨1, some 55, (.move (.tmp 5)), none⟩, []),
  (⟨2, some 56, (.indexAddr 22 (.tmp 54) (.tmp 55)), none⟩, []),
  (⟨3, some 57, (.load 24 (.tmp 56)), none⟩, []),
  (⟨4, some 58, (.move (.tmp 6)), none⟩, []),
  (⟨5, some 59, (.indexAddr 24 (.tmp 57) (.tmp 58)), none⟩, []),
  (⟨6, some 60, (.load 3 (.tmp 59)), none⟩, []),
  (⟨7, some 61, (.move (.tmp 3)), none⟩, []),
  (⟨8, some 62, (.move (.tmp 5)), none⟩, []),
  (⟨9, some 63, (.indexAddr 22 (.tmp 61) (.tmp 62)), none⟩, []),
  (⟨10, some 64, (.load 24 (.tmp 63)), none⟩, []),
  (⟨11, some 65, (.move (.tmp 6)), none⟩, []),
  (⟨12, some 66, (.indexAddr 24 (.tmp 64) (.tmp 65)), none⟩, []),
  (⟨13, some 67, (.load 3 (.tmp 66)), none⟩, []),
  (⟨14, some 68, (.binOp .neq 3 (.tmp 60) (.tmp 67) 3), none⟩, [])]
/-- law.go:119 -/
def p5_18 : Path := [
  (⟨0, some 2, (.assign (.const (.bool false))), none⟩, [])]
/-- law.go:117 -/
def p5_16 : Path := [
  (⟨0, some 52, (.move (.tmp 6)), none⟩, []),
  (⟨1, some 53, (.binOp .add 3 (.tmp 52) (.const (.int .i64 1)) 3), none⟩, []),
  (⟨2, some 6, (.assign (.tmp 53)), none⟩, [])]
/-- law.go:116 -/
def p5_13 : Path := [
  (⟨0, some 43, (.move (.tmp 5)), none⟩, []),
  (⟨1, some 44, (.binOp .add 3 (.tmp 43) (.const (.int .i64 1)) 3), none⟩, []),
  (⟨2, some 5, (.assign (.tmp 44)), none⟩, [])]
/-- law.go:123 -/
def p5_19 : Path := [
  (⟨0, some 70, (.call { callee := (.value (.func 9)), args := #[(.const (.slice none 0 0))], argTypes := #[22] }), none⟩, []),
  (⟨1, some 69, (.move (.tmp 70)), none⟩, []),
  (⟨2, some 71, (.extract (.tmp 69) 0), none⟩, []),
  (⟨3, some 72, (.extract (.tmp 69) 1), none⟩, []),
  (⟨4, some 7, (.assign (.tmp 71)), none⟩, []),
  (⟨5, some 8, (.assign (.tmp 72)), none⟩, [])]
/-- law.go:124 -/
def p5_20 : Path := [
  (⟨0, some 73, (.move (.tmp 7)), none⟩, []),
  (⟨1, some 74, (.call { callee := (.builtin .len), args := #[(.tmp 73)], argTypes := #[22] }), none⟩, []),
  (⟨2, some 75, (.binOp .eql 3 (.tmp 74) (.const (.int .i64 0)) 3), none⟩, []),
  (⟨3, some 76, (.move (.tmp 75)), none⟩, []),
  (⟨4, some 77, (.move (.tmp 8)), (some (76, true))⟩, []),
  (⟨5, some 78, (.call { callee := (.builtin .len), args := #[(.tmp 77)], argTypes := #[24] }), (some (76, true))⟩, []),
  (⟨6, some 79, (.binOp .eql 3 (.tmp 78) (.const (.int .i64 0)) 3), (some (76, true))⟩, []),
  (⟨7, some 80, (.pick (.tmp 76) (.tmp 79) (.const (.bool false))), none⟩, []),
  (⟨8, some 2, (.assign (.tmp 80)), none⟩, [])]

def c5 : SCode :=
 (.seq (.reg 1 [0, 2, 3, 4, 5, 6, 7, 8] p5_0)
 (.seq (.seq (.reg 7 [0, 2, 3, 4, 5, 6, 7, 8, 15] p5_1)
  (.cond 15 false
   (.seq (.reg 2 [0, 2, 3, 4, 5, 6, 7, 8] p5_2)
    .ret)
   .skip))
 (.seq (.reg 1 [0, 2, 3, 4, 5, 6, 7, 8] p5_3)
 (.seq (.seq (.reg 1 [0, 2, 3, 4, 5, 6, 7, 8] p5_4)
  (.block 0
   (.loop
     (.seq (.seq (.reg 4 [0, 2, 3, 4, 5, 6, 7, 8, 20] p5_5)
       (.cond 20 false
        .skip
        (.exit 0)))
      (.seq (.block 1
        (.seq (.seq (.reg 6 [0, 2, 3, 4, 5, 6, 7, 8, 28] p5_7)
          (.cond 28 false
           (.seq (.reg 1 [0, 2, 3, 4, 5, 6, 7, 8] p5_8)
            .ret)
           .skip))
         (.reg 9 [0, 2, 3, 4, 5, 6, 7, 8] p5_9)))
      (.reg 3 [0, 2, 3, 4, 5, 6, 7, 8] p5_6))))))
 (.seq (.reg 2 [0, 2, 3, 4, 5, 6, 7, 8] p5_10)
 (.seq (.seq (.reg 1 [0, 2, 3, 4, 5, 6, 7, 8] p5_11)
  (.block 2
   (.loop
     (.seq (.seq (.reg 4 [0, 2, 3, 4, 5, 6, 7, 8, 42] p5_12)
       (.cond 42 false
        .skip
        (.exit 2)))
      (.seq (.block 3
        (.seq (.reg 1 [0, 2, 3, 4, 5, 6, 7, 8] p5_14)
         (.block 4
          (.loop
            (.seq (.seq (.reg 7 [0, 2, 3, 4, 5, 6, 7, 8, 51] p5_15)
              (.cond 51 false
               .skip
               (.exit 4)))
             (.seq (.block 5
               (.seq (.reg 15 [0, 2, 3, 4, 5, 6, 7, 8, 68] p5_17)
                (.cond 68 false
                 (.seq (.reg 1 [0, 2, 3, 4, 5, 6, 7, 8] p5_18)
                  .ret)
                 .skip)))
             (.reg 3 [0, 2, 3, 4, 5, 6, 7, 8] p5_16)))))))
      (.reg 3 [0, 2, 3, 4, 5, 6, 7, 8] p5_13))))))
 (.seq (.reg 6 [0, 2, 3, 4, 5, 6, 7, 8] p5_19)
 (.seq (.reg 9 [0, 2, 3, 4, 5, 6, 7, 8] p5_20)
 .ret))))))))

theorem s5 : strip Try.prog 81 [0, 2, 3, 4, 5, 6, 7, 8] [15, 20, 28, 42, 51, 68] (Try.f5.body.getD .skip) = c5 := by kernel_rfl
theorem b5 : Try.f5.body = some (Try.f5.body.getD .skip) := by kernel_rfl
theorem n5 : (Try.f5.name == "runtime.NumGoroutine") = false := by kernel_rfl
theorem m5 : Try.f5.ntmps = 81 := by kernel_rfl
theorem r5 : Try.f5.results.toList = [.tmp 2] := by kernel_rfl
/-- The walk begins. -/
theorem enter5 {args : List Value} {h : AHeap} {Q : Value → AHeap → Prop} (hr : SW Try.prog 81 c5 (params args) h (retQ Try.prog [.tmp 2] Q)) : ACallW Try.prog 5 args h Q :=
  acall_intro Try.func5 b5 n5 r5 s5 hr

end Go.Proofs.Ytbcgcnmnblfhmaa
