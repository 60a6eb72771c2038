/- The code of function 7, weathervane/weathervanelaw16.KnotSelf, each region as one path. Written by gen.py. -/
import Derived.Test.YtbcgcnmnblfhmaaLin15
import Derived.Test.YtbcgcnmnblfhmaaProg
import Derived.KernelRfl
namespace Go.Proofs.Ytbcgcnmnblfhmaa
open Lin

/-- more.go:38 -/
def p7_0 : Path := [
  (⟨0, some 4, (.assign (.const (.bool false))), none⟩, [])]
/-- more.go:39 -/
def p7_1 : Path := [
  (⟨0, some 18, (.call { callee := (.value (.func 8)), args := #[], argTypes := #[] }), none⟩, []),
  (⟨1, some 19, (.unOp .not 4 (.tmp 18)), none⟩, []),
  (⟨2, some 20, (.move (.tmp 19)), none⟩, []),
  (⟨3, some 21, (.move (.tmp 0)), (some (20, false))⟩, []),
  (⟨4, some 22, (.call { callee := (.builtin .len), args := #[(.tmp 21)], argTypes := #[22] }), (some (20, false))⟩, []),
  (⟨5, some 23, (.binOp .gtr 3 (.tmp 22) (.const (.int .i64 20)) 3), (some (20, false))⟩, []),
  (⟨6, some 24, (.pick (.tmp 20) (.const (.bool true)) (.tmp 23)), none⟩, [])]
/-- more.go:40 -/
def p7_2 : Path := [
  (⟨0, some 25, (.call { callee := (.value (.func 8)), args := #[], argTypes := #[] }), none⟩, []),
  (⟨1, some 4, (.assign (.tmp 25)), none⟩, [])]
/-- more.go:42 -/
def p7_3 : Path := [
  (⟨0, some 26, (.move (.tmp 0)), none⟩, []),
  (⟨1, some 27, (.call { callee := (.builtin .len), args := #[(.tmp 26)], argTypes := #[22] }), none⟩, []),
  (⟨2, some 5, (.assign (.tmp 27)), none⟩, [])]
/-- more.go:43 -/
def p7_4 : Path := [
  (⟨0, some 6, (.assign (.const (.slice none 0 0))), none⟩, []),
  (⟨1, some 7, (.assign (.const (.slice none 0 0))), none⟩, [])]
/-- more.go:44 -/
def p7_5 : Path := [
  (⟨0, some 8, (.assign (.const (.int .i64 0))), none⟩, [])]
/-- more.go:44 -/
def p7_6 : Path := [
  (⟨0, some 28, (.move (.tmp 8)), none⟩, []),
  (⟨1, some 29, (.move (.tmp 5)), none⟩, []),
  (⟨2, some 30, (.binOp .lss 3 (.tmp 28) (.tmp 29) 3), none⟩, [])]
/-- more.go:45 -/
def p7_8 : Path := [
  (⟨0, some 9, (.assign (.const (.slice none 0 0))), none⟩, [])]
/-- more.go:46 -/
def p7_9 : Path := [
  (⟨0, some 10, (.assign (.const (.int .i64 0))), none⟩, [])]
/-- more.go:46 -/
def p7_10 : Path := [
  (⟨0, some 33, (.move (.tmp 10)), none⟩, []),
  (⟨1, some 34, (.move (.tmp 0)), none⟩, []),
  (⟨2, some 35, (.move (.tmp 8)), none⟩, []),
  (⟨3, some 36, (.indexAddr 22 (.tmp 34) (.tmp 35)), none⟩, []),
  (⟨4, some 37, (.load 24 (.tmp 36)), none⟩, []),
  (⟨5, some 38, (.call { callee := (.builtin .len), args := #[(.tmp 37)], argTypes := #[24] }), none⟩, []),
  (⟨6, some 39, (.binOp .lss 3 (.tmp 33) (.tmp 38) 3), none⟩, []),
  (⟨7, some 40, (.move (.tmp 39)), none⟩, []),
  (⟨8, some 41, (.move (.tmp 10)), (some (40, true))⟩, []),
  (⟨9, some 42, (.binOp .lss 3 (.tmp 41) (.const (.int .i64 6)) 3), (some (40, true))⟩, []),
  (⟨10, some 43, (.pick (.tmp 40) (.tmp 42) (.const (.bool false))), none⟩, [])]
/-- more.go:47 -/
def p7_12 : Path := [
  (⟨0, some 46, (.move (.tmp 9)), none⟩, []),
  (⟨1, some 47, (.move (.tmp 0)), none⟩, []),
  (⟨2, some 48, (.move (.tmp 8)), none⟩, []),
  (⟨3, some 49, (.indexAddr 22 (.tmp 47) (.tmp 48)), none⟩, []),
  (⟨4, some 50, (.load 24 (.tmp 49)), none⟩, []),
  (⟨5, some 51, (.move (.tmp 10)), none⟩, []),
  (⟨6, some 52, (.indexAddr 24 (.tmp 50) (.tmp 51)), none⟩, []),
  (⟨7, some 53, (.load 3 (.tmp 52)), none⟩, []),
  (⟨8, some 54, (.convert 3 25 (.tmp 53)), none⟩, []),
  (⟨9, some 55, (.move (.tmp 5)), none⟩, []),
  (⟨10, some 56, (.convert 3 25 (.tmp 55)), none⟩, []),
  (⟨11, some 57, (.binOp .rem 25 (.tmp 54) (.tmp 56) 25), none⟩, []),
  (⟨12, some 58, (.convert 25 3 (.tmp 57)), none⟩, []),
  (⟨13, some 59, (.buildSlice 24 1 #[(0, (.tmp 58))]), none⟩, []),
  (⟨14, some 60, (.call { callee := (.builtin .append), args := #[(.tmp 46), (.tmp 59)], argTypes := #[24, 24] }), none⟩, []),
  (⟨15, some 9, (.assign (.tmp 60)), none⟩, [])]
/-- more.go:46 -/
def p7_11 : Path := [
  (⟨0, some 44, (.move (.tmp 10)), none⟩, []),
  (⟨1, some 45, (.binOp .add 3 (.tmp 44) (.const (.int .i64 1)) 3), none⟩, []),
  (⟨2, some 10, (.assign (.tmp 45)), none⟩, [])]
/-- more.go:49 -/
def p7_13 : Path := [
  (⟨0, some 61, (.move (.tmp 6)), none⟩, []),
  (⟨1, some 62, (.move (.tmp 9)), none⟩, []),
  (⟨2, some 63, (.buildSlice 22 1 #[(0, (.tmp 62))]), none⟩, []),
  (⟨3, some 64, (.call { callee := (.builtin .append), args := #[(.tmp 61), (.tmp 63)], argTypes := #[22, 22] }), none⟩, []),
  (⟨4, some 6, (.assign (.tmp 64)), none⟩, [])]
/-- more.go:50 -/
def p7_14 : Path := [
  (⟨0, some 65, (.move (.tmp 8)), none⟩, []),
  (⟨1, some 66, (.buildSlice 24 1 #[(0, (.tmp 65))]), none⟩, []),
  (⟨2, some 67, (.move (.tmp 9)), none⟩, []),
  (⟨3, some 68, (.call { callee := (.builtin .append), args := #[(.tmp 66), (.tmp 67)], argTypes := #[24, 24] }), none⟩, []),
  (⟨4, some 69, (.move (.tmp 9)), none⟩, []),
  (⟨5, some 70, (.call { callee := (.builtin .append), args := #[(.tmp 68), (.tmp 69)], argTypes := #[24, 24] }), none⟩, []),
  (⟨6, some 11, (.assign (.tmp 70)), none⟩, [])]
/-- more.go:51 -/
def p7_15 : Path := [
  (⟨0, some 71, (.move (.tmp 7)), none⟩, []),
  (⟨1, some 72, (.move (.tmp 11)), none⟩, []),
  (⟨2, some 73, (.move (.tmp 5)), none⟩, []),
  (⟨3, some 74, (.move (.tmp 1)), none⟩, []),
  (⟨4, some 75, (.convert 5 3 (.tmp 74)), none⟩, []),
  (⟨5, some 76, (.binOp .add 3 (.tmp 73) (.tmp 75) 3), none⟩, []),
  (⟨6, some 77, (.buildSlice 24 2 #[(0, (.const (.int .i64 (-1)))), (1, (.tmp 76))]), none⟩, []),
  (⟨7, some 78, (.call { callee := (.builtin .append), args := #[(.tmp 72), (.tmp 77)], argTypes := #[24, 24] }), none⟩, []),
  (⟨8, some 79, (.buildSlice 22 1 #[(0, (.tmp 78))]), none⟩, []),
  (⟨9, some 80, (.call { callee := (.builtin .append), args := #[(.tmp 71), (.tmp 79)], argTypes := #[22, 22] }), none⟩, []),
  (⟨10, some 7, (.assign (.tmp 80)), none⟩, [])]
/-- more.go:44 -/
def p7_7 : Path := [
  (⟨0, some 31, (.move (.tmp 8)), none⟩, []),
  (⟨1, some 32, (.binOp .add 3 (.tmp 31) (.const (.int .i64 1)) 3), none⟩, []),
  (⟨2, some 8, (.assign (.tmp 32)), none⟩, [])]
/-- more.go:53 -/
def p7_16 : Path := [
  (⟨0, some 82, (.move (.tmp 6)), none⟩, []),
  (⟨1, some 83, (.call { callee := (.value (.func 9)), args := #[(.tmp 82)], argTypes := #[22] }), none⟩, []),
  (⟨2, some 81, (.move (.tmp 83)), none⟩, []),
  (⟨3, some 84, (.extract (.tmp 81) 0), none⟩, []),
  (⟨4, some 85, (.extract (.tmp 81) 1), none⟩, []),
  (⟨5, some 12, (.assign (.tmp 84)), none⟩, []),
  (⟨6, some 13, (.assign (.tmp 85)), none⟩, [])]
/-- more.go:54 -/
def p7_17 : Path := [
  (⟨0, some 87, (.move (.tmp 7)), none⟩, []),
  (⟨1, some 88, (.call { callee := (.value (.func 9)), args := #[(.tmp 87)], argTypes := #[22] }), none⟩, []),
  (⟨2, some 86, (.move (.tmp 88)), none⟩, []),
  (⟨3, some 89, (.extract (.tmp 86) 0), none⟩, []),
  (⟨4, some 90, (.extract (.tmp 86) 1), none⟩, []),
  (⟨5, some 14, (.assign (.tmp 89)), none⟩, []),
  (⟨6, some 15, (.assign (.tmp 90)), none⟩, [])]
/-- more.go:55 -/
def p7_18 : Path := [
  (⟨0, some 91, (.move (.tmp 12)), none⟩, []),
  (⟨1, some 92, (.call { callee := (.builtin .len), args := #[(.tmp 91)], argTypes := #[22] }), none⟩, []),
  (⟨2, some 93, (.move (.tmp 14)), none⟩, []),
  (⟨3, some 94, (.call { callee := (.builtin .len), args := #[(.tmp 93)], argTypes := #[22] }), none⟩, []),
  (⟨4, some 95, (.binOp .neq 3 (.tmp 92) (.tmp 94) 3), none⟩, []),
  (⟨5, some 96, (.move (.tmp 95)), none⟩, []),
  (⟨6, some 97, (.move (.tmp 13)), (some (96, false))⟩, []),
  (⟨7, some 98, (.call { callee := (.builtin .len), args := #[(.tmp 97)], argTypes := #[24] }), (some (96, false))⟩, []),
  (⟨8, some 99, (.move (.tmp 5)), (some (96, false))⟩, []),
  (⟨9, some 100, (.binOp .neq 3 (.tmp 98) (.tmp 99) 3), (some (96, false))⟩, []),
  (⟨10, some 101, (.pick (.tmp 96) (.const (.bool true)) (.tmp 100)), none⟩, []),
  (⟨11, some 102, (.move (.tmp 101)), none⟩, []),
  (⟨12, some 103, (.move (.tmp 15)), (some (102, false))⟩, []),
  (⟨13, some 104, (.call { callee := (.builtin .len), args := #[(.tmp 103)], argTypes := #[24] }), (some (102, false))⟩, []),
  (⟨14, some 105, (.move (.tmp 5)), (some (102, false))⟩, []),
  (⟨15, some 106, (.binOp .neq 3 (.tmp 104) (.tmp 105) 3), (some (102, false))⟩, []),
  (⟨16, some 107, (.pick (.tmp 102) (.const (.bool true)) (.tmp 106)), none⟩, [])]
/-- more.go:56 -/
def p7_19 : Path := [
  (⟨0, some 4, (.assign (.const (.bool false))), none⟩, [])]
/-- more.go:58 -/
def p7_20 : Path := [
  (⟨0, some 16, (.assign (.const (.int .i64 0))), none⟩, [])]
/-- more.go:58 -/
def p7_21 : Path := [
  (⟨0, some 108, (.move (.tmp 16)), none⟩, []),
  (⟨1, some 109, (.move (.tmp 5)), none⟩, []),
  (⟨2, some 110, (.binOp .lss 3 (.tmp 108) (.tmp 109) 3), none⟩, [])]
/-- more.go:59 -/
def p7_23 : Path := [
  (⟨0, some 17, (.assign (.const (.int .i64 0))), none⟩, [])]
/-- more.go:59 -/
def p7_24 : Path := [
  (⟨0, some 113, (.move (.tmp 17)), none⟩, []),
  (⟨1, some 114, (.move (.tmp 5)), none⟩, []),
  (⟨2, some 115, (.binOp .lss 3 (.tmp 113) (.tmp 114) 3), none⟩, [])]
/-- more.go:60 -/
def p7_26 : Path := [
  (⟨0, some 118, (.move (.tmp 13)), none⟩, []),
  (⟨1, some 119, (.move (.tmp 16)), none⟩, []),
  (⟨2, some 120, (.indexAddr 24 (.tmp 118) (.tmp 119)), none⟩, []),
  (⟨3, some 121, (.load 3 (.tmp 120)), none⟩, []),
  (⟨4, some 122, (.move (.tmp 13)), none⟩, []),
  (⟨5, some 123, (.move (.tmp 17)), none⟩, []),
  (⟨6, some 124, (.indexAddr 24 (.tmp 122) (.tmp 123)), none⟩, []),
  (⟨7, some 125, (.load 3 (.tmp 124)), none⟩, []),
  (⟨8, some 126, (.binOp .eql 3 (.tmp 121) (.tmp 125) 3), none⟩, []),
  (⟨9, some 127, (.move (.tmp 15)), none⟩, []),
  (⟨10, some 128, (.move (.tmp 16)), none⟩, []),
  (⟨11, some 129, (.indexAddr 24 (.tmp 127) (.tmp 128)), none⟩, []),
  (⟨12, some 130, (.load 3 (.tmp 129)), none⟩, []),
  (⟨13, some 131, (.move (.tmp 15)), none⟩, []),
  (⟨14, some 132, (.move (.tmp 17)), none⟩, []),
  (⟨15, some 133, (.indexAddr 24 (.tmp 131) (.tmp 132)), none⟩, []),
  (⟨16, some 134, (.load 3 (.tmp 133)), none⟩, []),
  (⟨17, some 135, (.binOp .eql 3 (.tmp 130) (.tmp 134) 3), none⟩, []),
  (⟨18, some 136, (.binOp .neq 4 (.tmp 126) (.tmp 135) 4), none⟩, [])]
/-- more.go:61 -/
def p7_27 : Path := [
  (⟨0, some 4, (.assign (.const (.bool false))), none⟩, [])]
/-- more.go:59 -/
def p7_25 : Path := [
  (⟨0, some 116, (.move (.tmp 17)), none⟩, []),
  (⟨1, some 117, (.binOp .add 3 (.tmp 116) (.const (.int .i64 1)) 3), none⟩, []),
  (⟨2, some 17, (.assign (.tmp 117)), none⟩, [])]
/-- more.go:58 -/
def p7_22 : Path := [
  (⟨0, some 111, (.move (.tmp 16)), none⟩, []),
  (⟨1, some 112, (.binOp .add 3 (.tmp 111) (.const (.int .i64 1)) 3), none⟩, []),
  (⟨2, some 16, (.assign (.tmp 112)), none⟩, [])]
/-- more.go:65 -/
def p7_28 : Path := [
  (⟨0, some 4, (.assign (.const (.bool true))), none⟩, [])]

def c7 : SCode :=
 (.seq (.reg 1 [0, 1, 4, 5, 6, 7, 8, 9, 10, 11, 12, 13, 14, 15, 16, 17] p7_0)
 (.seq (.seq (.reg 7 [0, 1, 4, 5, 6, 7, 8, 9, 10, 11, 12, 13, 14, 15, 16, 17, 24] p7_1)
  (.cond 24 false
   (.seq (.reg 2 [0, 1, 4, 5, 6, 7, 8, 9, 10, 11, 12, 13, 14, 15, 16, 17] p7_2)
    .ret)
   .skip))
 (.seq (.reg 3 [0, 1, 4, 5, 6, 7, 8, 9, 10, 11, 12, 13, 14, 15, 16, 17] p7_3)
 (.seq (.reg 2 [0, 1, 4, 5, 6, 7, 8, 9, 10, 11, 12, 13, 14, 15, 16, 17] p7_4)
 (.seq (.seq (.reg 1 [0, 1, 4, 5, 6, 7, 8, 9, 10, 11, 12, 13, 14, 15, 16, 17] p7_5)
  (.block 0
   (.loop
     (.seq (.seq (.reg 3 [0, 1, 4, 5, 6, 7, 8, 9, 10, 11, 12, 13, 14, 15, 16, 17, 30] p7_6)
       (.cond 30 false
        .skip
        (.exit 0)))
      (.seq (.block 1
        (.seq (.reg 1 [0, 1, 4, 5, 6, 7, 8, 9, 10, 11, 12, 13, 14, 15, 16, 17] p7_8)
         (.seq (.seq (.reg 1 [0, 1, 4, 5, 6, 7, 8, 9, 10, 11, 12, 13, 14, 15, 16, 17] p7_9)
          (.block 2
           (.loop
             (.seq (.seq (.reg 11 [0, 1, 4, 5, 6, 7, 8, 9, 10, 11, 12, 13, 14, 15, 16, 17, 43] p7_10)
               (.cond 43 false
                .skip
                (.exit 2)))
              (.seq (.block 3
                (.reg 16 [0, 1, 4, 5, 6, 7, 8, 9, 10, 11, 12, 13, 14, 15, 16, 17] p7_12))
              (.reg 3 [0, 1, 4, 5, 6, 7, 8, 9, 10, 11, 12, 13, 14, 15, 16, 17] p7_11))))))
         (.seq (.reg 5 [0, 1, 4, 5, 6, 7, 8, 9, 10, 11, 12, 13, 14, 15, 16, 17] p7_13)
         (.seq (.reg 7 [0, 1, 4, 5, 6, 7, 8, 9, 10, 11, 12, 13, 14, 15, 16, 17] p7_14)
         (.reg 11 [0, 1, 4, 5, 6, 7, 8, 9, 10, 11, 12, 13, 14, 15, 16, 17] p7_15))))))
      (.reg 3 [0, 1, 4, 5, 6, 7, 8, 9, 10, 11, 12, 13, 14, 15, 16, 17] p7_7))))))
 (.seq (.reg 7 [0, 1, 4, 5, 6, 7, 8, 9, 10, 11, 12, 13, 14, 15, 16, 17] p7_16)
 (.seq (.reg 7 [0, 1, 4, 5, 6, 7, 8, 9, 10, 11, 12, 13, 14, 15, 16, 17] p7_17)
 (.seq (.seq (.reg 17 [0, 1, 4, 5, 6, 7, 8, 9, 10, 11, 12, 13, 14, 15, 16, 17, 107] p7_18)
  (.cond 107 false
   (.seq (.reg 1 [0, 1, 4, 5, 6, 7, 8, 9, 10, 11, 12, 13, 14, 15, 16, 17] p7_19)
    .ret)
   .skip))
 (.seq (.seq (.reg 1 [0, 1, 4, 5, 6, 7, 8, 9, 10, 11, 12, 13, 14, 15, 16, 17] p7_20)
  (.block 4
   (.loop
     (.seq (.seq (.reg 3 [0, 1, 4, 5, 6, 7, 8, 9, 10, 11, 12, 13, 14, 15, 16, 17, 110] p7_21)
       (.cond 110 false
        .skip
        (.exit 4)))
      (.seq (.block 5
        (.seq (.reg 1 [0, 1, 4, 5, 6, 7, 8, 9, 10, 11, 12, 13, 14, 15, 16, 17] p7_23)
         (.block 6
          (.loop
            (.seq (.seq (.reg 3 [0, 1, 4, 5, 6, 7, 8, 9, 10, 11, 12, 13, 14, 15, 16, 17, 115] p7_24)
              (.cond 115 false
               .skip
               (.exit 6)))
             (.seq (.block 7
               (.seq (.reg 19 [0, 1, 4, 5, 6, 7, 8, 9, 10, 11, 12, 13, 14, 15, 16, 17, 136] p7_26)
                (.cond 136 false
                 (.seq (.reg 1 [0, 1, 4, 5, 6, 7, 8, 9, 10, 11, 12, 13, 14, 15, 16, 17] p7_27)
                  .ret)
                 .skip)))
             (.reg 3 [0, 1, 4, 5, 6, 7, 8, 9, 10, 11, 12, 13, 14, 15, 16, 17] p7_25)))))))
      (.reg 3 [0, 1, 4, 5, 6, 7, 8, 9, 10, 11, 12, 13, 14, 15, 16, 17] p7_22))))))
 (.seq (.reg 1 [0, 1, 4, 5, 6, 7, 8, 9, 10, 11, 12, 13, 14, 15, 16, 17] p7_28)
 .ret))))))))))

theorem s7 : strip Try.prog 137 [0, 1, 4, 5, 6, 7, 8, 9, 10, 11, 12, 13, 14, 15, 16, 17] [24, 30, 43, 107, 110, 115, 136] (Try.f7.body.getD .skip) = c7 := by kernel_rfl
theorem b7 : Try.f7.body = some (Try.f7.body.getD .skip) := by kernel_rfl
theorem n7 : (Try.f7.name == "runtime.NumGoroutine") = false := by kernel_rfl
theorem m7 : Try.f7.ntmps = 137 := by kernel_rfl
theorem r7 : Try.f7.results.toList = [.tmp 4] := by kernel_rfl
/-- The walk begins. -/
theorem enter7 {args : List Value} {h : AHeap} {Q : Value → AHeap → Prop} (hr : SW Try.prog 137 c7 (params args) h (retQ Try.prog [.tmp 4] Q)) : ACallW Try.prog 7 args h Q :=
  acall_intro Try.func7 b7 n7 r7 s7 hr

end Go.Proofs.Ytbcgcnmnblfhmaa
