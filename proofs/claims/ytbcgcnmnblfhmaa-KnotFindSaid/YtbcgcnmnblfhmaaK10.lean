/- The code of function 10, (*weathervane/knot.tarjan).search, each region as one path. Written by gen.py. -/
import Derived.Test.YtbcgcnmnblfhmaaLin15
import Derived.Test.YtbcgcnmnblfhmaaProg
import Derived.KernelRfl
namespace Go.Proofs.Ytbcgcnmnblfhmaa
open Lin

/-- knot.go:45 -/
def p10_0 : Path := [
  (⟨0, some 9, (.move (.tmp 0)), none⟩, []),
  (⟨1, some 10, (.move (.tmp 1)), none⟩, []),
  (⟨2, some 11, (.call { callee := (.value (.func 11)), args := #[(.tmp 9), (.tmp 10)], argTypes := #[35, 3] }), none⟩, []),
  (⟨3, some 12, (.buildSlice 42 1 #[(0, (.tmp 11))]), none⟩, []),
  (⟨4, some 4, (.assign (.tmp 12)), none⟩, [])]
/-- knot.go:47 -/
def p10_1 : Path := [
  (⟨0, some 13, (.move (.tmp 4)), none⟩, []),
  (⟨1, some 14, (.call { callee := (.builtin .len), args := #[(.tmp 13)], argTypes := #[42] }), none⟩, []),
  (⟨2, some 15, (.binOp .gtr 3 (.tmp 14) (.const (.int .i64 0)) 3), none⟩, [])]
/-- knot.go:48 -/
def p10_2 : Path := [
  (⟨0, some 16, (.move (.tmp 4)), none⟩, []),
  (⟨1, some 17, (.move (.tmp 4)), none⟩, []),
  (⟨2, some 18, (.call { callee := (.builtin .len), args := #[(.tmp 17)], argTypes := #[42] }), none⟩, []),
  (⟨3, some 19, (.binOp .sub 3 (.tmp 18) (.const (.int .i64 1)) 3), none⟩, []),
  (⟨4, some 20, (.indexAddr 42 (.tmp 16) (.tmp 19)), none⟩, []),
  (⟨5, some 5, (.assign (.tmp 20)), none⟩, [])]
/-- knot.go:49 -/
def p10_3 : Path := [
  (⟨0, some 21, (.move (.tmp 5)), none⟩, []),
  (⟨1, some 22, (.nilCheck (.tmp 21)), none⟩, []),
  (⟨2, some 23, (.fieldAddr 40 (.tmp 22) 1), none⟩, []),
  (⟨3, some 24, (.load 3 (.tmp 23)), none⟩, []),
  (⟨4, some 25, (.move (.tmp 0)), none⟩, []),
  (⟨5, some 26, (.nilCheck (.tmp 25)), none⟩, []),
  (⟨6, some 27, (.fieldAddr 37 (.tmp 26) 0), none⟩, []),
  (⟨7, some 28, (.load 22 (.tmp 27)), none⟩, []),
  (⟨8, some 29, (.move (.tmp 5)), none⟩, []),
  (⟨9, some 30, (.nilCheck (.tmp 29)), none⟩, []),
  (⟨10, some 31, (.fieldAddr 40 (.tmp 30) 0), none⟩, []),
  (⟨11, some 32, (.load 3 (.tmp 31)), none⟩, []),
  (⟨12, some 33, (.indexAddr 22 (.tmp 28) (.tmp 32)), none⟩, []),
  (⟨13, some 34, (.load 24 (.tmp 33)), none⟩, []),
  (⟨14, some 35, (.call { callee := (.builtin .len), args := #[(.tmp 34)], argTypes := #[24] }), none⟩, []),
  (⟨15, some 36, (.binOp .lss 3 (.tmp 24) (.tmp 35) 3), none⟩, [])]
/-- knot.go:50 -/
def p10_4 : Path := [
  (⟨0, some 37, (.move (.tmp 0)), none⟩, []),
  (⟨1, some 38, (.nilCheck (.tmp 37)), none⟩, []),
  (⟨2, some 39, (.fieldAddr 37 (.tmp 38) 0), none⟩, []),
  (⟨3, some 40, (.load 22 (.tmp 39)), none⟩, []),
  (⟨4, some 41, (.move (.tmp 5)), none⟩, []),
  (⟨5, some 42, (.nilCheck (.tmp 41)), none⟩, []),
  (⟨6, some 43, (.fieldAddr 40 (.tmp 42) 0), none⟩, []),
  (⟨7, some 44, (.load 3 (.tmp 43)), none⟩, []),
  (⟨8, some 45, (.indexAddr 22 (.tmp 40) (.tmp 44)), none⟩, []),
  (⟨9, some 46, (.load 24 (.tmp 45)), none⟩, []),
  (⟨10, some 47, (.move (.tmp 5)), none⟩, []),
  (⟨11, some 48, (.nilCheck (.tmp 47)), none⟩, []),
  (⟨12, some 49, (.fieldAddr 40 (.tmp 48) 1), none⟩, []),
  (⟨13, some 50, (.load 3 (.tmp 49)), none⟩, []),
  (⟨14, some 51, (.indexAddr 24 (.tmp 46) (.tmp 50)), none⟩, []),
  (⟨15, some 52, (.load 3 (.tmp 51)), none⟩, []),
  (⟨16, some 6, (.assign (.tmp 52)), none⟩, [])]
/-- knot.go:51 -/
def p10_5 : Path := [
  (⟨0, some 53, (.move (.tmp 5)), none⟩, []),
  (⟨1, some 54, (.nilCheck (.tmp 53)), none⟩, []),
  (⟨2, some 55, (.fieldAddr 40 (.tmp 54) 1), none⟩, []),
  (⟨3, some 56, (.load 3 (.tmp 55)), none⟩, []),
  (⟨4, some 57, (.binOp .add 3 (.tmp 56) (.const (.int .i64 1)) 3), none⟩, []),
  (⟨5, some 58, (.nilCheck (.tmp 53)), none⟩, []),
  (⟨6, some 59, (.fieldAddr 40 (.tmp 58) 1), none⟩, []),
  (⟨7, none, (.store 3 (.tmp 59) (.tmp 57)), none⟩, [])]
/-- knot.go:53 -/
def p10_6 : Path := [
  (⟨0, some 61, (.move (.tmp 6)), none⟩, []),
  (⟨1, some 62, (.binOp .lss 3 (.tmp 61) (.const (.int .i64 0)) 3), none⟩, []),
  (⟨2, some 63, (.move (.tmp 62)), none⟩, []),
  (⟨3, some 64, (.move (.tmp 6)), (some (63, false))⟩, []),
  (⟨4, some 65, (.move (.tmp 0)), (some (63, false))⟩, []),
  (⟨5, some 66, (.nilCheck (.tmp 65)), (some (63, false))⟩, []),
  (⟨6, some 67, (.fieldAddr 37 (.tmp 66) 0), (some (63, false))⟩, []),
  (⟨7, some 68, (.load 22 (.tmp 67)), (some (63, false))⟩, []),
  (⟨8, some 69, (.call { callee := (.builtin .len), args := #[(.tmp 68)], argTypes := #[22] }), (some (63, false))⟩, []),
  (⟨9, some 70, (.binOp .geq 3 (.tmp 64) (.tmp 69) 3), (some (63, false))⟩, []),
  (⟨10, some 71, (.pick (.tmp 63) (.const (.bool true)) (.tmp 70)), none⟩, []),
  (⟨11, some 60, (.assign (.tmp 71)), none⟩, [])]
/-- knot.go:54 -/
def p10_7 : Path := [
  (⟨0, some 73, (.move (.tmp 0)), none⟩, []),
  (⟨1, some 74, (.nilCheck (.tmp 73)), none⟩, []),
  (⟨2, some 75, (.fieldAddr 37 (.tmp 74) 1), none⟩, []),
  (⟨3, some 76, (.load 24 (.tmp 75)), none⟩, []),
  (⟨4, some 77, (.move (.tmp 6)), none⟩, []),
  (⟨5, some 78, (.indexAddr 24 (.tmp 76) (.tmp 77)), none⟩, []),
  (⟨6, some 79, (.load 3 (.tmp 78)), none⟩, []),
  (⟨7, some 80, (.binOp .eql 3 (.tmp 79) (.const (.int .i64 0)) 3), none⟩, []),
  (⟨8, some 72, (.assign (.tmp 80)), none⟩, [])]
/-- knot.go:55 -/
def p10_8 : Path := [
  (⟨0, some 81, (.move (.tmp 4)), none⟩, []),
  (⟨1, some 82, (.move (.tmp 0)), none⟩, []),
  (⟨2, some 83, (.move (.tmp 6)), none⟩, []),
  (⟨3, some 84, (.call { callee := (.value (.func 11)), args := #[(.tmp 82), (.tmp 83)], argTypes := #[35, 3] }), none⟩, []),
  (⟨4, some 85, (.buildSlice 42 1 #[(0, (.tmp 84))]), none⟩, []),
  (⟨5, some 86, (.call { callee := (.builtin .append), args := #[(.tmp 81), (.tmp 85)], argTypes := #[42, 42] }), none⟩, []),
  (⟨6, some 4, (.assign (.tmp 86)), none⟩, [])]
/-- knot.go:57 -/
def p10_9 : Path := [
  (⟨0, some 88, (.move (.tmp 0)), none⟩, []),
  (⟨1, some 89, (.nilCheck (.tmp 88)), none⟩, []),
  (⟨2, some 90, (.fieldAddr 37 (.tmp 89) 3), none⟩, []),
  (⟨3, some 91, (.load 27 (.tmp 90)), none⟩, []),
  (⟨4, some 92, (.move (.tmp 6)), none⟩, []),
  (⟨5, some 93, (.indexAddr 27 (.tmp 91) (.tmp 92)), none⟩, []),
  (⟨6, some 94, (.load 4 (.tmp 93)), none⟩, []),
  (⟨7, some 87, (.assign (.tmp 94)), none⟩, [])]
/-- knot.go:58 -/
def p10_10 : Path := [
  (⟨0, some 95, (.move (.tmp 0)), none⟩, []),
  (⟨1, some 96, (.nilCheck (.tmp 95)), none⟩, []),
  (⟨2, some 97, (.fieldAddr 37 (.tmp 96) 2), none⟩, []),
  (⟨3, some 98, (.load 24 (.tmp 97)), none⟩, []),
  (⟨4, some 99, (.move (.tmp 5)), none⟩, []),
  (⟨5, some 100, (.nilCheck (.tmp 99)), none⟩, []),
  (⟨6, some 101, (.fieldAddr 40 (.tmp 100) 0), none⟩, []),
  (⟨7, some 102, (.load 3 (.tmp 101)), none⟩, []),
  (⟨8, some 103, (.move (.tmp 0)), none⟩, []),
  (⟨9, some 104, (.nilCheck (.tmp 103)), none⟩, []),
  (⟨10, some 105, (.fieldAddr 37 (.tmp 104) 2), none⟩, []),
  (⟨11, some 106, (.load 24 (.tmp 105)), none⟩, []),
  (⟨12, some 107, (.move (.tmp 5)), none⟩, []),
  (⟨13, some 108, (.nilCheck (.tmp 107)), none⟩, []),
  (⟨14, some 109, (.fieldAddr 40 (.tmp 108) 0), none⟩, []),
  (⟨15, some 110, (.load 3 (.tmp 109)), none⟩, []),
  (⟨16, some 111, (.indexAddr 24 (.tmp 106) (.tmp 110)), none⟩, []),
  (⟨17, some 112, (.load 3 (.tmp 111)), none⟩, []),
  (⟨18, some 113, (.move (.tmp 0)), none⟩, []),
  (⟨19, some 114, (.nilCheck (.tmp 113)), none⟩, []),
  (⟨20, some 115, (.fieldAddr 37 (.tmp 114) 1), none⟩, []),
  (⟨21, some 116, (.load 24 (.tmp 115)), none⟩, []),
  (⟨22, some 117, (.move (.tmp 6)), none⟩, []),
  (⟨23, some 118, (.indexAddr 24 (.tmp 116) (.tmp 117)), none⟩, []),
  (⟨24, some 119, (.load 3 (.tmp 118)), none⟩, []),
  (⟨25, some 120, (.call { callee := (.builtin .min), args := #[(.tmp 112), (.tmp 119)], argTypes := #[3, 3] }), none⟩, []),
  (⟨26, some 121, (.indexAddr 24 (.tmp 98) (.tmp 102)), none⟩, []),
  (⟨27, none, (.store 3 (.tmp 121) (.tmp 120)), none⟩, [])]
/-- knot.go:61 -/
def p10_11 : Path := [
  (⟨0, some 122, (.move (.tmp 5)), none⟩, []),
  (⟨1, some 123, (.nilCheck (.tmp 122)), none⟩, []),
  (⟨2, some 124, (.fieldAddr 40 (.tmp 123) 0), none⟩, []),
  (⟨3, some 125, (.load 3 (.tmp 124)), none⟩, []),
  (⟨4, some 7, (.assign (.tmp 125)), none⟩, [])]
/-- knot.go:62 -/
def p10_12 : Path := [
  (⟨0, some 126, (.move (.tmp 4)), none⟩, []),
  (⟨1, some 127, (.move (.tmp 4)), none⟩, []),
  (⟨2, some 128, (.call { callee := (.builtin .len), args := #[(.tmp 127)], argTypes := #[42] }), none⟩, []),
  (⟨3, some 129, (.binOp .sub 3 (.tmp 128) (.const (.int .i64 1)) 3), none⟩, []),
  (⟨4, some 130, (.slice 42 (.tmp 126) none (some (.tmp 129)) none), none⟩, []),
  (⟨5, some 4, (.assign (.tmp 130)), none⟩, [])]
/-- knot.go:63 -/
def p10_13 : Path := [
  (⟨0, some 131, (.move (.tmp 4)), none⟩, []),
  (⟨1, some 132, (.call { callee := (.builtin .len), args := #[(.tmp 131)], argTypes := #[42] }), none⟩, []),
  (⟨2, some 133, (.binOp .gtr 3 (.tmp 132) (.const (.int .i64 0)) 3), none⟩, [])]
/-- knot.go:64 -/
def p10_14 : Path := [
  (⟨0, some 134, (.move (.tmp 4)), none⟩, []),
  (⟨1, some 135, (.move (.tmp 4)), none⟩, []),
  (⟨2, some 136, (.call { callee := (.builtin .len), args := #[(.tmp 135)], argTypes := #[42] }), none⟩, []),
  (⟨3, some 137, (.binOp .sub 3 (.tmp 136) (.const (.int .i64 1)) 3), none⟩, []),
  (⟨4, some 138, (.indexAddr 42 (.tmp 134) (.tmp 137)), none⟩, []),
  (⟨5, some 139, (.fieldAddr 40 (.tmp 138) 0), none⟩, []),
  (⟨6, some 140, (.load 3 (.tmp 139)), none⟩, []),
  (⟨7, some 8, (.assign (.tmp 140)), none⟩, [])]
/-- knot.go:65 -/
def p10_15 : Path := [
  (⟨0, some 141, (.move (.tmp 0)), none⟩, []),
  (⟨1, some 142, (.nilCheck (.tmp 141)), none⟩, []),
  (⟨2, some 143, (.fieldAddr 37 (.tmp 142) 2), none⟩, []),
  (⟨3, some 144, (.load 24 (.tmp 143)), none⟩, []),
  (⟨4, some 145, (.move (.tmp 8)), none⟩, []),
  (⟨5, some 146, (.move (.tmp 0)), none⟩, []),
  (⟨6, some 147, (.nilCheck (.tmp 146)), none⟩, []),
  (⟨7, some 148, (.fieldAddr 37 (.tmp 147) 2), none⟩, []),
  (⟨8, some 149, (.load 24 (.tmp 148)), none⟩, []),
  (⟨9, some 150, (.move (.tmp 8)), none⟩, []),
  (⟨10, some 151, (.indexAddr 24 (.tmp 149) (.tmp 150)), none⟩, []),
  (⟨11, some 152, (.load 3 (.tmp 151)), none⟩, []),
  (⟨12, some 153, (.move (.tmp 0)), none⟩, []),
  (⟨13, some 154, (.nilCheck (.tmp 153)), none⟩, []),
  (⟨14, some 155, (.fieldAddr 37 (.tmp 154) 2), none⟩, []),
  (⟨15, some 156, (.load 24 (.tmp 155)), none⟩, []),
  (⟨16, some 157, (.move (.tmp 7)), none⟩, []),
  (⟨17, some 158, (.indexAddr 24 (.tmp 156) (.tmp 157)), none⟩, []),
  (⟨18, some 159, (.load 3 (.tmp 158)), none⟩, []),
  (⟨19, some 160, (.call { callee := (.builtin .min), args := #[(.tmp 152), (.tmp 159)], argTypes := #[3, 3] }), none⟩, []),
  (⟨20, some 161, (.indexAddr 24 (.tmp 144) (.tmp 145)), none⟩, []),
  (⟨21, none, (.store 3 (.tmp 161) (.tmp 160)), none⟩, [])]
/-- knot.go:67 -/
def p10_16 : Path := [
  (⟨0, some 162, (.move (.tmp 0)), none⟩, []),
  (⟨1, some 163, (.nilCheck (.tmp 162)), none⟩, []),
  (⟨2, some 164, (.fieldAddr 37 (.tmp 163) 2), none⟩, []),
  (⟨3, some 165, (.load 24 (.tmp 164)), none⟩, []),
  (⟨4, some 166, (.move (.tmp 7)), none⟩, []),
  (⟨5, some 167, (.indexAddr 24 (.tmp 165) (.tmp 166)), none⟩, []),
  (⟨6, some 168, (.load 3 (.tmp 167)), none⟩, []),
  (⟨7, some 169, (.move (.tmp 0)), none⟩, []),
  (⟨8, some 170, (.nilCheck (.tmp 169)), none⟩, []),
  (⟨9, some 171, (.fieldAddr 37 (.tmp 170) 1), none⟩, []),
  (⟨10, some 172, (.load 24 (.tmp 171)), none⟩, []),
  (⟨11, some 173, (.move (.tmp 7)), none⟩, []),
  (⟨12, some 174, (.indexAddr 24 (.tmp 172) (.tmp 173)), none⟩, []),
  (⟨13, some 175, (.load 3 (.tmp 174)), none⟩, []),
  (⟨14, some 176, (.binOp .eql 3 (.tmp 168) (.tmp 175) 3), none⟩, [])]
/-- knot.go:68 -/
def p10_17 : Path := [
  (⟨0, some 177, (.move (.tmp 0)), none⟩, []),
  (⟨1, some 178, (.move (.tmp 7)), none⟩, []),
  (⟨2, some 179, (.call { callee := (.value (.func 12)), args := #[(.tmp 177), (.tmp 178)], argTypes := #[35, 3] }), none⟩, [])]

def c10 : SCode :=
 (.scope
  (.seq (.reg 5 [0, 1, 4, 5, 6, 7, 8] p10_0)
   (.seq (.label 0)
   (.block 0
    (.loop
      (.seq (.seq (.reg 3 [0, 1, 4, 5, 6, 7, 8, 15] p10_1)
        (.cond 15 false
         .skip
         (.exit 0)))
       (.block 1
        (.seq (.reg 6 [0, 1, 4, 5, 6, 7, 8] p10_2)
         (.seq (.block 2
           (.loop
             (.seq (.seq (.reg 16 [0, 1, 4, 5, 6, 7, 8, 36] p10_3)
               (.cond 36 false
                .skip
                (.exit 2)))
              (.block 3
               (.seq (.reg 17 [0, 1, 4, 5, 6, 7, 8] p10_4)
                (.seq (.reg 8 [0, 1, 4, 5, 6, 7, 8] p10_5)
                (.block 4
                 (.seq (.reg 12 [0, 1, 4, 5, 6, 7, 8, 60] p10_6)
                  (.cond 60 false
                   .skip
                   (.seq (.reg 9 [0, 1, 4, 5, 6, 7, 8, 72] p10_7)
                    (.cond 72 false
                     (.seq (.reg 7 [0, 1, 4, 5, 6, 7, 8] p10_8)
                      (.exit 1))
                     (.seq (.reg 8 [0, 1, 4, 5, 6, 7, 8, 87] p10_9)
                      (.cond 87 false
                       (.reg 28 [0, 1, 4, 5, 6, 7, 8] p10_10)
                       .skip)))))))))))))
         (.seq (.reg 5 [0, 1, 4, 5, 6, 7, 8] p10_11)
         (.seq (.reg 6 [0, 1, 4, 5, 6, 7, 8] p10_12)
         (.seq (.seq (.reg 3 [0, 1, 4, 5, 6, 7, 8, 133] p10_13)
          (.cond 133 false
           (.seq (.reg 8 [0, 1, 4, 5, 6, 7, 8] p10_14)
            (.reg 22 [0, 1, 4, 5, 6, 7, 8] p10_15))
           .skip))
         (.seq (.reg 15 [0, 1, 4, 5, 6, 7, 8, 176] p10_16)
         (.cond 176 false
          (.reg 3 [0, 1, 4, 5, 6, 7, 8] p10_17)
          .skip))))))))))))))

theorem s10 : strip Try.prog 180 [0, 1, 4, 5, 6, 7, 8] [15, 36, 60, 72, 87, 133, 176] (Try.f10.body.getD .skip) = c10 := by kernel_rfl
theorem b10 : Try.f10.body = some (Try.f10.body.getD .skip) := by kernel_rfl
theorem n10 : (Try.f10.name == "runtime.NumGoroutine") = false := by kernel_rfl
theorem m10 : Try.f10.ntmps = 180 := by kernel_rfl
theorem r10 : Try.f10.results.toList = [] := by kernel_rfl
/-- The walk begins. -/
theorem enter10 {args : List Value} {h : AHeap} {Q : Value → AHeap → Prop} (hr : SW Try.prog 180 c10 (params args) h (retQ Try.prog [] Q)) : ACallW Try.prog 10 args h Q :=
  acall_intro Try.func10 b10 n10 r10 s10 hr

end Go.Proofs.Ytbcgcnmnblfhmaa
