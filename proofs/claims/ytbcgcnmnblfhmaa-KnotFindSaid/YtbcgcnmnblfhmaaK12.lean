/- The code of function 12, (*weathervane/knot.tarjan).leave, each region as one path. Written by gen.py. -/
import Derived.Test.YtbcgcnmnblfhmaaLin15
import Derived.Test.YtbcgcnmnblfhmaaProg
import Derived.KernelRfl
namespace Go.Proofs.Ytbcgcnmnblfhmaa
open Lin

/-- knot.go:75 -/
def p12_0 : Path := [
  (⟨0, some 8, (.move (.tmp 0)), none⟩, []),
  (⟨1, some 9, (.nilCheck (.tmp 8)), none⟩, []),
  (⟨2, some 10, (.fieldAddr 37 (.tmp 9) 4), none⟩, []),
  (⟨3, some 11, (.load 24 (.tmp 10)), none⟩, []),
  (⟨4, some 12, (.call { callee := (.builtin .len), args := #[(.tmp 11)], argTypes := #[24] }), none⟩, []),
  (⟨5, some 13, (.binOp .sub 3 (.tmp 12) (.const (.int .i64 1)) 3), none⟩, []),
  (⟨6, some 4, (.assign (.tmp 13)), none⟩, [])]
/-- knot.go:76 -/
def p12_1 : Path := [
  (⟨0, some 14, (.move (.tmp 0)), none⟩, []),
  (⟨1, some 15, (.nilCheck (.tmp 14)), none⟩, []),
  (⟨2, some 16, (.fieldAddr 37 (.tmp 15) 4), none⟩, []),
  (⟨3, some 17, (.load 24 (.tmp 16)), none⟩, []),
  (⟨4, some 18, (.move (.tmp 4)), none⟩, []),
  (⟨5, some 19, (.indexAddr 24 (.tmp 17) (.tmp 18)), none⟩, []),
  (⟨6, some 20, (.load 3 (.tmp 19)), none⟩, []),
  (⟨7, some 21, (.move (.tmp 1)), none⟩, []),
  (⟨8, some 22, (.binOp .neq 3 (.tmp 20) (.tmp 21) 3), none⟩, [])]
/-- knot.go:77 -/
def p12_2 : Path := [
  (⟨0, some 23, (.move (.tmp 4)), none⟩, []),
  (⟨1, some 24, (.binOp .sub 3 (.tmp 23) (.const (.int .i64 1)) 3), none⟩, []),
  (⟨2, some 4, (.assign (.tmp 24)), none⟩, [])]
/-- knot.go:79 -/
def p12_3 : Path := [
  (⟨0, some 25, (.move (.tmp 0)), none⟩, []),
  (⟨1, some 26, (.nilCheck (.tmp 25)), none⟩, []),
  (⟨2, some 27, (.fieldAddr 37 (.tmp 26) 4), none⟩, []),
  (⟨3, some 28, (.load 24 (.tmp 27)), none⟩, []),
  (⟨4, some 29, (.move (.tmp 4)), none⟩, []),
  (⟨5, some 30, (.slice 24 (.tmp 28) (some (.tmp 29)) none none), none⟩, []),
  (⟨6, some 31, (.call { callee := (.builtin .append), args := #[(.const (.slice none 0 0)), (.tmp 30)], argTypes := #[24, 24] }), none⟩, []),
  (⟨7, some 5, (.assign (.tmp 31)), none⟩, [])]
/-- knot.go:80 -/
def p12_4 : Path := [
  (⟨0, some 32, (.move (.tmp 0)), none⟩, []),
  (⟨1, some 33, (.move (.tmp 0)), none⟩, []),
  (⟨2, some 34, (.nilCheck (.tmp 33)), none⟩, []),
  (⟨3, some 35, (.fieldAddr 37 (.tmp 34) 4), none⟩, []),
  (⟨4, some 36, (.load 24 (.tmp 35)), none⟩, []),
  (⟨5, some 37, (.move (.tmp 4)), none⟩, []),
  (⟨6, some 38, (.slice 24 (.tmp 36) none (some (.tmp 37)) none), none⟩, []),
  (⟨7, some 39, (.nilCheck (.tmp 32)), none⟩, []),
  (⟨8, some 40, (.fieldAddr 37 (.tmp 39) 4), none⟩, []),
  (⟨9, none, (.store 24 (.tmp 40) (.tmp 38)), none⟩, [])]
/-- knot.go:81 -/
def p12_5 : Path := [
  (⟨0, some 41, (.move (.tmp 5)), none⟩, []),
  (⟨1, some 42, (.call { callee := (.builtin .len), args := #[(.tmp 41)], argTypes := #[24] }), none⟩, []),
  (⟨2, some 43, (.move (.const (.int .i64 0))), none⟩, [])]
/-- knot.go:81 -/
def p12_6 : Path := [
  (⟨0, some 44, (.binOp .lss 3 (.tmp 43) (.tmp 42) 3), none⟩, [])]
/-- knot.go:81 -/
def p12_7 : Path := [
  (⟨0, some 45, (.indexAddr 24 (.tmp 41) (.tmp 43)), none⟩, []),
  (⟨1, some 46, (.load 3 (.tmp 45)), none⟩, []),
  (⟨2, some 7, (.assign (.tmp 46)), none⟩, [])]
/-- knot.go:82 -/
def p12_8 : Path := [
  (⟨0, some 47, (.move (.tmp 0)), none⟩, []),
  (⟨1, some 48, (.nilCheck (.tmp 47)), none⟩, []),
  (⟨2, some 49, (.fieldAddr 37 (.tmp 48) 3), none⟩, []),
  (⟨3, some 50, (.load 27 (.tmp 49)), none⟩, []),
  (⟨4, some 51, (.move (.tmp 7)), none⟩, []),
  (⟨5, some 52, (.move (.tmp 0)), none⟩, []),
  (⟨6, some 53, (.nilCheck (.tmp 52)), none⟩, []),
  (⟨7, some 54, (.fieldAddr 37 (.tmp 53) 5), none⟩, []),
  (⟨8, some 55, (.load 24 (.tmp 54)), none⟩, []),
  (⟨9, some 56, (.move (.tmp 7)), none⟩, []),
  (⟨10, some 57, (.move (.tmp 0)), none⟩, []),
  (⟨11, some 58, (.nilCheck (.tmp 57)), none⟩, []),
  (⟨12, some 59, (.fieldAddr 37 (.tmp 58) 7), none⟩, []),
  (⟨13, some 60, (.load 22 (.tmp 59)), none⟩, []),
  (⟨14, some 61, (.call { callee := (.builtin .len), args := #[(.tmp 60)], argTypes := #[22] }), none⟩, []),
  (⟨15, some 62, (.indexAddr 27 (.tmp 50) (.tmp 51)), none⟩, []),
  (⟨16, none, (.store 4 (.tmp 62) (.const (.bool false))), none⟩, []),
  (⟨17, some 63, (.indexAddr 24 (.tmp 55) (.tmp 56)), none⟩, []),
  (⟨18, none, (.store 3 (.tmp 63) (.tmp 61)), none⟩, [])]
/-- knot.go:81 -/
def p12_9 : Path := [
  (⟨0, some 64, (.binOp .add 3 (.tmp 43) (.const (.int .i64 1)) 3), none⟩, []),
  (⟨1, some 43, (.move (.tmp 64)), none⟩, [])]
/-- knot.go:84 -/
def p12_10 : Path := [
  (⟨0, some 65, (.move (.tmp 5)), none⟩, []),
  (⟨1, some 66, (.call { callee := (.value (.func 13)), args := #[(.tmp 65)], argTypes := #[24] }), none⟩, [])]
/-- knot.go:85 -/
def p12_11 : Path := [
  (⟨0, some 67, (.move (.tmp 0)), none⟩, []),
  (⟨1, some 68, (.move (.tmp 0)), none⟩, []),
  (⟨2, some 69, (.nilCheck (.tmp 68)), none⟩, []),
  (⟨3, some 70, (.fieldAddr 37 (.tmp 69) 7), none⟩, []),
  (⟨4, some 71, (.load 22 (.tmp 70)), none⟩, []),
  (⟨5, some 72, (.move (.tmp 5)), none⟩, []),
  (⟨6, some 73, (.buildSlice 22 1 #[(0, (.tmp 72))]), none⟩, []),
  (⟨7, some 74, (.call { callee := (.builtin .append), args := #[(.tmp 71), (.tmp 73)], argTypes := #[22, 22] }), none⟩, []),
  (⟨8, some 75, (.nilCheck (.tmp 67)), none⟩, []),
  (⟨9, some 76, (.fieldAddr 37 (.tmp 75) 7), none⟩, []),
  (⟨10, none, (.store 22 (.tmp 76) (.tmp 74)), none⟩, [])]

def c12 : SCode :=
 (.seq (.reg 7 [0, 1, 4, 5, 7, 41, 42, 43] p12_0)
 (.seq (.block 0
   (.loop
     (.seq (.seq (.reg 9 [0, 1, 4, 5, 7, 41, 42, 43, 22] p12_1)
       (.cond 22 false
        .skip
        (.exit 0)))
      (.block 1
       (.reg 3 [0, 1, 4, 5, 7, 41, 42, 43] p12_2)))))
 (.seq (.reg 8 [0, 1, 4, 5, 7, 41, 42, 43] p12_3)
 (.seq (.reg 10 [0, 1, 4, 5, 7, 41, 42, 43] p12_4)
 (.seq (.seq (.reg 3 [0, 1, 4, 5, 7, 41, 42, 43] p12_5)
  (.block 2
   (.loop
     (.seq (.reg 1 [0, 1, 4, 5, 7, 41, 42, 43, 44] p12_6)
      (.seq (.cond 44 false
        .skip
        (.exit 2))
      (.seq (.block 3
        (.seq (.reg 3 [0, 1, 4, 5, 7, 41, 42, 43] p12_7)
         (.reg 19 [0, 1, 4, 5, 7, 41, 42, 43] p12_8)))
      (.reg 2 [0, 1, 4, 5, 7, 41, 42, 43] p12_9)))))))
 (.seq (.reg 2 [0, 1, 4, 5, 7, 41, 42, 43] p12_10)
 (.reg 11 [0, 1, 4, 5, 7, 41, 42, 43] p12_11)))))))

theorem s12 : strip Try.prog 77 [0, 1, 4, 5, 7, 41, 42, 43] [22, 44] (Try.f12.body.getD .skip) = c12 := by kernel_rfl
theorem b12 : Try.f12.body = some (Try.f12.body.getD .skip) := by kernel_rfl
theorem n12 : (Try.f12.name == "runtime.NumGoroutine") = false := by kernel_rfl
theorem m12 : Try.f12.ntmps = 77 := by kernel_rfl
theorem r12 : Try.f12.results.toList = [] := by kernel_rfl
/-- The walk begins. -/
theorem enter12 {args : List Value} {h : AHeap} {Q : Value → AHeap → Prop} (hr : SW Try.prog 77 c12 (params args) h (retQ Try.prog [] Q)) : ACallW Try.prog 12 args h Q :=
  acall_intro Try.func12 b12 n12 r12 s12 hr

end Go.Proofs.Ytbcgcnmnblfhmaa
