/- The code of function 6, weathervane/weathervanelaw16.KnotTurned, each region as one path. Written by gen.py. -/
import Derived.Test.YtbcgcnmnblfhmaaLin15
import Derived.Test.YtbcgcnmnblfhmaaProg
import Derived.KernelRfl
namespace Go.Proofs.Ytbcgcnmnblfhmaa
open Lin

/-- more.go:8 -/
def p6_0 : Path := [
  (⟨0, some 2, (.assign (.const (.bool false))), none⟩, [])]
/-- more.go:9 -/
def p6_1 : Path := [
  (⟨0, some 15, (.call { callee := (.value (.func 8)), args := #[], argTypes := #[] }), none⟩, []),
  (⟨1, some 16, (.unOp .not 4 (.tmp 15)), none⟩, []),
  (⟨2, some 17, (.move (.tmp 16)), none⟩, []),
  (⟨3, some 18, (.move (.tmp 0)), (some (17, false))⟩, []),
  (⟨4, some 19, (.call { callee := (.builtin .len), args := #[(.tmp 18)], argTypes := #[22] }), (some (17, false))⟩, []),
  (⟨5, some 20, (.binOp .gtr 3 (.tmp 19) (.const (.int .i64 20)) 3), (some (17, false))⟩, []),
  (⟨6, some 21, (.pick (.tmp 17) (.const (.bool true)) (.tmp 20)), none⟩, [])]
/-- more.go:10 -/
def p6_2 : Path := [
  (⟨0, some 22, (.call { callee := (.value (.func 8)), args := #[], argTypes := #[] }), none⟩, []),
  (⟨1, some 2, (.assign (.tmp 22)), none⟩, [])]
/-- more.go:12 -/
def p6_3 : Path := [
  (⟨0, some 23, (.move (.tmp 0)), none⟩, []),
  (⟨1, some 24, (.call { callee := (.builtin .len), args := #[(.tmp 23)], argTypes := #[22] }), none⟩, []),
  (⟨2, some 3, (.assign (.tmp 24)), none⟩, [])]
/-- more.go:13 -/
def p6_4 : Path := [
  (⟨0, some 25, (.move (.tmp 3)), none⟩, []),
  (⟨1, some 26, (.makeSlice 22 (.tmp 25) (.tmp 25)), none⟩, []),
  (⟨2, some 4, (.assign (.tmp 26)), none⟩, [])]
/-- more.go:14 -/
def p6_5 : Path := [
  (⟨0, some 27, (.move (.tmp 3)), none⟩, []),
  (⟨1, some 28, (.makeSlice 22 (.tmp 27) (.tmp 27)), none⟩, []),
  (⟨2, some 5, (.assign (.tmp 28)), none⟩, [])]
/-- more.go:15 -/
def p6_6 : Path := [
  (⟨0, some 6, (.assign (.const (.int .i64 0))), none⟩, [])]
/-- more.go:15 -/
def p6_7 : Path := [
  (⟨0, some 29, (.move (.tmp 6)), none⟩, []),
  (⟨1, some 30, (.move (.tmp 3)), none⟩, []),
  (⟨2, some 31, (.binOp .lss 3 (.tmp 29) (.tmp 30) 3), none⟩, [])]
/-- more.go:16 -/
def p6_9 : Path := [
  (⟨0, some 7, (.assign (.const (.int .i64 0))), none⟩, [])]
/-- more.go:16 -/
def p6_10 : Path := [
  (⟨0, some 34, (.move (.tmp 7)), none⟩, []),
  (⟨1, some 35, (.move (.tmp 0)), none⟩, []),
  (⟨2, some 36, (.move (.tmp 6)), none⟩, []),
  (⟨3, some 37, (.indexAddr 22 (.tmp 35) (.tmp 36)), none⟩, []),
  (⟨4, some 38, (.load 24 (.tmp 37)), none⟩, []),
  (⟨5, some 39, (.call { callee := (.builtin .len), args := #[(.tmp 38)], argTypes := #[24] }), none⟩, []),
  (⟨6, some 40, (.binOp .lss 3 (.tmp 34) (.tmp 39) 3), none⟩, []),
  (⟨7, some 41, (.move (.tmp 40)), none⟩, []),
  (⟨8, some 42, (.move (.tmp 7)), (some (41, true))⟩, []),
  (⟨9, some 43, (.binOp .lss 3 (.tmp 42) (.const (.int .i64 6)) 3), (some (41, true))⟩, []),
  (⟨10, some 44, (.pick (.tmp 41) (.tmp 43) (.const (.bool false))), none⟩, [])]
/-- more.go:17 -/
def p6_12 : Path := [
  (⟨0, some 47, (.move (.tmp 0)), none⟩, []),
  (⟨1, some 48, (.move (.tmp 6)), none⟩, []),
  (⟨2, some 49, (.indexAddr 22 (.tmp 47) (.tmp 48)), none⟩, []),
  (⟨3, some 50, (.load 24 (.tmp 49)), none⟩, []),
  (⟨4, some 51, (.move (.tmp 7)), none⟩, []),
  (⟨5, some 52, (.indexAddr 24 (.tmp 50) (.tmp 51)), none⟩, []),
  (⟨6, some 53, (.load 3 (.tmp 52)), none⟩, []),
  (⟨7, some 54, (.convert 3 25 (.tmp 53)), none⟩, []),
  (⟨8, some 55, (.move (.tmp 3)), none⟩, []),
  (⟨9, some 56, (.convert 3 25 (.tmp 55)), none⟩, []),
  (⟨10, some 57, (.binOp .rem 25 (.tmp 54) (.tmp 56) 25), none⟩, []),
  (⟨11, some 58, (.convert 25 3 (.tmp 57)), none⟩, []),
  (⟨12, some 8, (.assign (.tmp 58)), none⟩, [])]
/-- more.go:18 -/
def p6_13 : Path := [
  (⟨0, some 59, (.move (.tmp 4)), none⟩, []),
  (⟨1, some 60, (.move (.tmp 6)), none⟩, []),
  (⟨2, some 61, (.move (.tmp 4)), none⟩, []),
  (⟨3, some 62, (.move (.tmp 6)), none⟩, []),
  (⟨4, some 63, (.indexAddr 22 (.tmp 61) (.tmp 62)), none⟩, []),
  (⟨5, some 64, (.load 24 (.tmp 63)), none⟩, []),
  (⟨6, some 65, (.move (.tmp 8)), none⟩, []),
  (⟨7, some 66, (.buildSlice 24 1 #[(0, (.tmp 65))]), none⟩, []),
  (⟨8, some 67, (.call { callee := (.builtin .append), args := #[(.tmp 64), (.tmp 66)], argTypes := #[24, 24] }), none⟩, []),
  (⟨9, some 68, (.indexAddr 22 (.tmp 59) (.tmp 60)), none⟩, []),
  (⟨10, none, (.store 24 (.tmp 68) (.tmp 67)), none⟩, [])]
/-- more.go:19 -/
def p6_14 : Path := [
  (⟨0, some 69, (.move (.tmp 5)), none⟩, []),
  (⟨1, some 70, (.move (.tmp 8)), none⟩, []),
  (⟨2, some 71, (.move (.tmp 5)), none⟩, []),
  (⟨3, some 72, (.move (.tmp 8)), none⟩, []),
  (⟨4, some 73, (.indexAddr 22 (.tmp 71) (.tmp 72)), none⟩, []),
  (⟨5, some 74, (.load 24 (.tmp 73)), none⟩, []),
  (⟨6, some 75, (.move (.tmp 6)), none⟩, []),
  (⟨7, some 76, (.buildSlice 24 1 #[(0, (.tmp 75))]), none⟩, []),
  (⟨8, some 77, (.call { callee := (.builtin .append), args := #[(.tmp 74), (.tmp 76)], argTypes := #[24, 24] }), none⟩, []),
  (⟨9, some 78, (.indexAddr 22 (.tmp 69) (.tmp 70)), none⟩, []),
  (⟨10, none, (.store 24 (.tmp 78) (.tmp 77)), none⟩, [])]
/-- more.go:16 -/
def p6_11 : Path := [
  (⟨0, some 45, (.move (.tmp 7)), none⟩, []),
  (⟨1, some 46, (.binOp .add 3 (.tmp 45) (.const (.int .i64 1)) 3), none⟩, []),
  (⟨2, some 7, (.assign (.tmp 46)), none⟩, [])]
/-- more.go:15 -/
def p6_8 : Path := [
  (⟨0, some 32, (.move (.tmp 6)), none⟩, []),
  (⟨1, some 33, (.binOp .add 3 (.tmp 32) (.const (.int .i64 1)) 3), none⟩, []),
  (⟨2, some 6, (.assign (.tmp 33)), none⟩, [])]
/-- more.go:22 -/
def p6_15 : Path := [
  (⟨0, some 80, (.move (.tmp 4)), none⟩, []),
  (⟨1, some 81, (.call { callee := (.value (.func 9)), args := #[(.tmp 80)], argTypes := #[22] }), none⟩, []),
  (⟨2, some 79, (.move (.tmp 81)), none⟩, []),
  (⟨3, some 82, (.extract (.tmp 79) 0), none⟩, []),
  (⟨4, some 83, (.extract (.tmp 79) 1), none⟩, []),
  (⟨5, some 9, (.assign (.tmp 82)), none⟩, []),
  (⟨6, some 10, (.assign (.tmp 83)), none⟩, [])]
/-- more.go:23 -/
def p6_16 : Path := [
  (⟨0, some 85, (.move (.tmp 5)), none⟩, []),
  (⟨1, some 86, (.call { callee := (.value (.func 9)), args := #[(.tmp 85)], argTypes := #[22] }), none⟩, []),
  (⟨2, some 84, (.move (.tmp 86)), none⟩, []),
  (⟨3, some 87, (.extract (.tmp 84) 0), none⟩, []),
  (⟨4, some 88, (.extract (.tmp 84) 1), none⟩, []),
  (⟨5, some 11, (.assign (.tmp 87)), none⟩, []),
  (⟨6, some 12, (.assign (.tmp 88)), none⟩, [])]
/-- more.go:24 -/
def p6_17 : Path := [
  (⟨0, some 89, (.move (.tmp 9)), none⟩, []),
  (⟨1, some 90, (.call { callee := (.builtin .len), args := #[(.tmp 89)], argTypes := #[22] }), none⟩, []),
  (⟨2, some 91, (.move (.tmp 11)), none⟩, []),
  (⟨3, some 92, (.call { callee := (.builtin .len), args := #[(.tmp 91)], argTypes := #[22] }), none⟩, []),
  (⟨4, some 93, (.binOp .neq 3 (.tmp 90) (.tmp 92) 3), none⟩, []),
  (⟨5, some 94, (.move (.tmp 93)), none⟩, []),
  (⟨6, some 95, (.move (.tmp 10)), (some (94, false))⟩, []),
  (⟨7, some 96, (.call { callee := (.builtin .len), args := #[(.tmp 95)], argTypes := #[24] }), (some (94, false))⟩, []),
  (⟨8, some 97, (.move (.tmp 3)), (some (94, false))⟩, []),
  (⟨9, some 98, (.binOp .neq 3 (.tmp 96) (.tmp 97) 3), (some (94, false))⟩, []),
  (⟨10, some 99, (.pick (.tmp 94) (.const (.bool true)) (.tmp 98)), none⟩, []),
  (⟨11, some 100, (.move (.tmp 99)), none⟩, []),
  (⟨12, some 101, (.move (.tmp 12)), (some (100, false))⟩, []),
  (⟨13, some 102, (.call { callee := (.builtin .len), args := #[(.tmp 101)], argTypes := #[24] }), (some (100, false))⟩, []),
  (⟨14, some 103, (.move (.tmp 3)), (some (100, false))⟩, []),
  (⟨15, some 104, (.binOp .neq 3 (.tmp 102) (.tmp 103) 3), (some (100, false))⟩, []),
  (⟨16, some 105, (.pick (.tmp 100) (.const (.bool true)) (.tmp 104)), none⟩, [])]
/-- more.go:25 -/
def p6_18 : Path := [
  (⟨0, some 2, (.assign (.const (.bool false))), none⟩, [])]
/-- more.go:27 -/
def p6_19 : Path := [
  (⟨0, some 13, (.assign (.const (.int .i64 0))), none⟩, [])]
/-- more.go:27 -/
def p6_20 : Path := [
  (⟨0, some 106, (.move (.tmp 13)), none⟩, []),
  (⟨1, some 107, (.move (.tmp 3)), none⟩, []),
  (⟨2, some 108, (.binOp .lss 3 (.tmp 106) (.tmp 107) 3), none⟩, [])]
/-- more.go:28 -/
def p6_22 : Path := [
  (⟨0, some 14, (.assign (.const (.int .i64 0))), none⟩, [])]
/-- more.go:28 -/
def p6_23 : Path := [
  (⟨0, some 111, (.move (.tmp 14)), none⟩, []),
  (⟨1, some 112, (.move (.tmp 3)), none⟩, []),
  (⟨2, some 113, (.binOp .lss 3 (.tmp 111) (.tmp 112) 3), none⟩, [])]
/-- more.go:29 -/
def p6_25 : Path := [
  (⟨0, some 116, (.move (.tmp 10)), none⟩, []),
  (⟨1, some 117, (.move (.tmp 13)), none⟩, []),
  (⟨2, some 118, (.indexAddr 24 (.tmp 116) (.tmp 117)), none⟩, []),
  (⟨3, some 119, (.load 3 (.tmp 118)), none⟩, []),
  (⟨4, some 120, (.move (.tmp 10)), none⟩, []),
  (⟨5, some 121, (.move (.tmp 14)), none⟩, []),
  (⟨6, some 122, (.indexAddr 24 (.tmp 120) (.tmp 121)), none⟩, []),
  (⟨7, some 123, (.load 3 (.tmp 122)), none⟩, []),
  (⟨8, some 124, (.binOp .eql 3 (.tmp 119) (.tmp 123) 3), none⟩, []),
  (⟨9, some 125, (.move (.tmp 12)), none⟩, []),
  (⟨10, some 126, (.move (.tmp 13)), none⟩, []),
  (⟨11, some 127, (.indexAddr 24 (.tmp 125) (.tmp 126)), none⟩, []),
  (⟨12, some 128, (.load 3 (.tmp 127)), none⟩, []),
  (⟨13, some 129, (.move (.tmp 12)), none⟩, []),
  (⟨14, some 130, (.move (.tmp 14)), none⟩, []),
  (⟨15, some 131, (.indexAddr 24 (.tmp 129) (.tmp 130)), none⟩, []),
  (⟨16, some 132, (.load 3 (.tmp 131)), none⟩, []),
  (⟨17, some 133, (.binOp .eql 3 (.tmp 128) (.tmp 132) 3), none⟩, []),
  (⟨18, some 134, (.binOp .neq 4 (.tmp 124) (.tmp 133) 4), none⟩, [])]
/-- more.go:30 -/
def p6_26 : Path := [
  (⟨0, some 2, (.assign (.const (.bool false))), none⟩, [])]
/-- more.go:28 -/
def p6_24 : Path := [
  (⟨0, some 114, (.move (.tmp 14)), none⟩, []),
  (⟨1, some 115, (.binOp .add 3 (.tmp 114) (.const (.int .i64 1)) 3), none⟩, []),
  (⟨2, some 14, (.assign (.tmp 115)), none⟩, [])]
/-- more.go:27 -/
def p6_21 : Path := [
  (⟨0, some 109, (.move (.tmp 13)), none⟩, []),
  (⟨1, some 110, (.binOp .add 3 (.tmp 109) (.const (.int .i64 1)) 3), none⟩, []),
  (⟨2, some 13, (.assign (.tmp 110)), none⟩, [])]
/-- more.go:34 -/
def p6_27 : Path := [
  (⟨0, some 2, (.assign (.const (.bool true))), none⟩, [])]

def c6 : SCode :=
 (.seq (.reg 1 [0, 2, 3, 4, 5, 6, 7, 8, 9, 10, 11, 12, 13, 14] p6_0)
 (.seq (.seq (.reg 7 [0, 2, 3, 4, 5, 6, 7, 8, 9, 10, 11, 12, 13, 14, 21] p6_1)
  (.cond 21 false
   (.seq (.reg 2 [0, 2, 3, 4, 5, 6, 7, 8, 9, 10, 11, 12, 13, 14] p6_2)
    .ret)
   .skip))
 (.seq (.reg 3 [0, 2, 3, 4, 5, 6, 7, 8, 9, 10, 11, 12, 13, 14] p6_3)
 (.seq (.reg 3 [0, 2, 3, 4, 5, 6, 7, 8, 9, 10, 11, 12, 13, 14] p6_4)
 (.seq (.reg 3 [0, 2, 3, 4, 5, 6, 7, 8, 9, 10, 11, 12, 13, 14] p6_5)
 (.seq (.seq (.reg 1 [0, 2, 3, 4, 5, 6, 7, 8, 9, 10, 11, 12, 13, 14] p6_6)
  (.block 0
   (.loop
     (.seq (.seq (.reg 3 [0, 2, 3, 4, 5, 6, 7, 8, 9, 10, 11, 12, 13, 14, 31] p6_7)
       (.cond 31 false
        .skip
        (.exit 0)))
      (.seq (.block 1
        (.seq (.reg 1 [0, 2, 3, 4, 5, 6, 7, 8, 9, 10, 11, 12, 13, 14] p6_9)
         (.block 2
          (.loop
            (.seq (.seq (.reg 11 [0, 2, 3, 4, 5, 6, 7, 8, 9, 10, 11, 12, 13, 14, 44] p6_10)
              (.cond 44 false
               .skip
               (.exit 2)))
             (.seq (.block 3
               (.seq (.reg 13 [0, 2, 3, 4, 5, 6, 7, 8, 9, 10, 11, 12, 13, 14] p6_12)
                (.seq (.reg 11 [0, 2, 3, 4, 5, 6, 7, 8, 9, 10, 11, 12, 13, 14] p6_13)
                (.reg 11 [0, 2, 3, 4, 5, 6, 7, 8, 9, 10, 11, 12, 13, 14] p6_14))))
             (.reg 3 [0, 2, 3, 4, 5, 6, 7, 8, 9, 10, 11, 12, 13, 14] p6_11)))))))
      (.reg 3 [0, 2, 3, 4, 5, 6, 7, 8, 9, 10, 11, 12, 13, 14] p6_8))))))
 (.seq (.reg 7 [0, 2, 3, 4, 5, 6, 7, 8, 9, 10, 11, 12, 13, 14] p6_15)
 (.seq (.reg 7 [0, 2, 3, 4, 5, 6, 7, 8, 9, 10, 11, 12, 13, 14] p6_16)
 (.seq (.seq (.reg 17 [0, 2, 3, 4, 5, 6, 7, 8, 9, 10, 11, 12, 13, 14, 105] p6_17)
  (.cond 105 false
   (.seq (.reg 1 [0, 2, 3, 4, 5, 6, 7, 8, 9, 10, 11, 12, 13, 14] p6_18)
    .ret)
   .skip))
 (.seq (.seq (.reg 1 [0, 2, 3, 4, 5, 6, 7, 8, 9, 10, 11, 12, 13, 14] p6_19)
  (.block 4
   (.loop
     (.seq (.seq (.reg 3 [0, 2, 3, 4, 5, 6, 7, 8, 9, 10, 11, 12, 13, 14, 108] p6_20)
       (.cond 108 false
        .skip
        (.exit 4)))
      (.seq (.block 5
        (.seq (.reg 1 [0, 2, 3, 4, 5, 6, 7, 8, 9, 10, 11, 12, 13, 14] p6_22)
         (.block 6
          (.loop
            (.seq (.seq (.reg 3 [0, 2, 3, 4, 5, 6, 7, 8, 9, 10, 11, 12, 13, 14, 113] p6_23)
              (.cond 113 false
               .skip
               (.exit 6)))
             (.seq (.block 7
               (.seq (.reg 19 [0, 2, 3, 4, 5, 6, 7, 8, 9, 10, 11, 12, 13, 14, 134] p6_25)
                (.cond 134 false
                 (.seq (.reg 1 [0, 2, 3, 4, 5, 6, 7, 8, 9, 10, 11, 12, 13, 14] p6_26)
                  .ret)
                 .skip)))
             (.reg 3 [0, 2, 3, 4, 5, 6, 7, 8, 9, 10, 11, 12, 13, 14] p6_24)))))))
      (.reg 3 [0, 2, 3, 4, 5, 6, 7, 8, 9, 10, 11, 12, 13, 14] p6_21))))))
 (.seq (.reg 1 [0, 2, 3, 4, 5, 6, 7, 8, 9, 10, 11, 12, 13, 14] p6_27)
 .ret)))))))))))

theorem s6 : strip Try.prog 135 [0, 2, 3, 4, 5, 6, 7, 8, 9, 10, 11, 12, 13, 14] [21, 31, 44, 105, 108, 113, 134] (Try.f6.body.getD .skip) = c6 := by kernel_rfl
theorem b6 : Try.f6.body = some (Try.f6.body.getD .skip) := by kernel_rfl
theorem n6 : (Try.f6.name == "runtime.NumGoroutine") = false := by kernel_rfl
theorem m6 : Try.f6.ntmps = 135 := by kernel_rfl
theorem r6 : Try.f6.results.toList = [.tmp 2] := by kernel_rfl
/-- The walk begins. -/
theorem enter6 {args : List Value} {h : AHeap} {Q : Value → AHeap → Prop} (hr : SW Try.prog 135 c6 (params args) h (retQ Try.prog [.tmp 2] Q)) : ACallW Try.prog 6 args h Q :=
  acall_intro Try.func6 b6 n6 r6 s6 hr

end Go.Proofs.Ytbcgcnmnblfhmaa
