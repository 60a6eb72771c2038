/- The code of function 9, weathervane/knot.Find, each region as one path. Written by gen.py. -/
import Derived.Test.YtbcgcnmnblfhmaaLin15
import Derived.Test.YtbcgcnmnblfhmaaProg
import Derived.KernelRfl
namespace Go.Proofs.Ytbcgcnmnblfhmaa
open Lin

/-- knot.go:25 -/
def p9_0 : Path := [
  (⟨0, some 2, (.assign (.const (.slice none 0 0))), none⟩, []),
  (⟨1, some 3, (.assign (.const (.slice none 0 0))), none⟩, [])]
/-- knot.go:26 -/
def p9_1 : Path := [
  (⟨0, some 6, (.move (.tmp 0)), none⟩, []),
  (⟨1, some 7, (.move (.tmp 0)), none⟩, []),
  (⟨2, some 8, (.call { callee := (.builtin .len), args := #[(.tmp 7)], argTypes := #[22] }), none⟩, []),
  (⟨3, some 9, (.makeSlice 24 (.tmp 8) (.tmp 8)), none⟩, []),
  (⟨4, some 10, (.move (.tmp 0)), none⟩, []),
  (⟨5, some 11, (.call { callee := (.builtin .len), args := #[(.tmp 10)], argTypes := #[22] }), none⟩, []),
  (⟨6, some 12, (.makeSlice 24 (.tmp 11) (.tmp 11)), none⟩, []),
  (⟨7, some 13, (.move (.tmp 0)), none⟩, []),
  (⟨8, some 14, (.call { callee := (.builtin .len), args := #[(.tmp 13)], argTypes := #[22] }), none⟩, []),
  (⟨9, some 15, (.makeSlice 27 (.tmp 14) (.tmp 14)), none⟩, []),
  (⟨10, some 16, (.move (.tmp 0)), none⟩, []),
  (⟨11, some 17, (.call { callee := (.builtin .len), args := #[(.tmp 16)], argTypes := #[22] }), none⟩, []),
  (⟨12, some 18, (.makeSlice 24 (.tmp 17) (.tmp 17)), none⟩, []),
  (⟨13, some 19, (.build 37 #[(0, (.tmp 6)), (1, (.tmp 9)), (2, (.tmp 12)), (3, (.tmp 15)), (5, (.tmp 18))]), none⟩, []),
  (⟨14, some 20, (.box 37 (.tmp 19)), none⟩, []),
  (⟨15, some 4, (.assign (.tmp 20)), none⟩, [])]
/-- knot.go:27 -/
def p9_2 : Path := [
  (⟨0, some 21, (.move (.tmp 0)), none⟩, []),
  (⟨1, some 22, (.call { callee := (.builtin .len), args := #[(.tmp 21)], argTypes := #[22] }), none⟩, []),
  (⟨2, some 23, (.move (.const (.int .i64 0))), none⟩, [])]
/-- knot.go:27 -/
def p9_3 : Path := [
  (⟨0, some 24, (.binOp .lss 3 (.tmp 23) (.tmp 22) 3), none⟩, [])]
/-- knot.go:27 -/
def p9_4 : Path := [
  (⟨0, some 25, (.move (.tmp 23)), none⟩, []),
  (⟨1, some 5, (.assign (.tmp 25)), none⟩, [])]
/-- knot.go:28 -/
def p9_5 : Path := [
  (⟨0, some 26, (.move (.tmp 4)), none⟩, []),
  (⟨1, some 27, (.nilCheck (.tmp 26)), none⟩, []),
  (⟨2, some 28, (.fieldAddr 37 (.tmp 27) 1), none⟩, []),
  (⟨3, some 29, (.load 24 (.tmp 28)), none⟩, []),
  (⟨4, some 30, (.move (.tmp 5)), none⟩, []),
  (⟨5, some 31, (.indexAddr 24 (.tmp 29) (.tmp 30)), none⟩, []),
  (⟨6, some 32, (.load 3 (.tmp 31)), none⟩, []),
  (⟨7, some 33, (.binOp .eql 3 (.tmp 32) (.const (.int .i64 0)) 3), none⟩, [])]
/-- knot.go:29 -/
def p9_6 : Path := [
  (⟨0, some 34, (.move (.tmp 4)), none⟩, []),
  (⟨1, some 35, (.move (.tmp 5)), none⟩, []),
  (⟨2, some 36, (.call { callee := (.value (.func 10)), args := #[(.tmp 34), (.tmp 35)], argTypes := #[35, 3] }), none⟩, [])]
/-- knot.go:27 -/
def p9_7 : Path := [
  (⟨0, some 37, (.binOp .add 3 (.tmp 23) (.const (.int .i64 1)) 3), none⟩, []),
  (⟨1, some 23, (.move (.tmp 37)), none⟩, [])]
/-- knot.go:32 -/
def p9_8 : Path := [
  (⟨0, some 38, (.move (.tmp 4)), none⟩, []),
  (⟨1, some 39, (.nilCheck (.tmp 38)), none⟩, []),
  (⟨2, some 40, (.fieldAddr 37 (.tmp 39) 7), none⟩, []),
  (⟨3, some 41, (.load 22 (.tmp 40)), none⟩, []),
  (⟨4, some 42, (.move (.tmp 4)), none⟩, []),
  (⟨5, some 43, (.nilCheck (.tmp 42)), none⟩, []),
  (⟨6, some 44, (.fieldAddr 37 (.tmp 43) 5), none⟩, []),
  (⟨7, some 45, (.load 24 (.tmp 44)), none⟩, []),
  (⟨8, some 2, (.assign (.tmp 41)), none⟩, []),
  (⟨9, some 3, (.assign (.tmp 45)), none⟩, [])]

def c9 : SCode :=
 (.seq (.reg 2 [0, 2, 3, 4, 5, 22, 23] p9_0)
 (.seq (.reg 16 [0, 2, 3, 4, 5, 22, 23] p9_1)
 (.seq (.seq (.reg 3 [0, 2, 3, 4, 5, 22, 23] p9_2)
  (.block 0
   (.loop
     (.seq (.reg 1 [0, 2, 3, 4, 5, 22, 23, 24] p9_3)
      (.seq (.cond 24 false
        .skip
        (.exit 0))
      (.seq (.block 1
        (.seq (.reg 2 [0, 2, 3, 4, 5, 22, 23] p9_4)
         (.seq (.reg 8 [0, 2, 3, 4, 5, 22, 23, 33] p9_5)
         (.cond 33 false
          (.reg 3 [0, 2, 3, 4, 5, 22, 23] p9_6)
          .skip))))
      (.reg 2 [0, 2, 3, 4, 5, 22, 23] p9_7)))))))
 (.seq (.reg 10 [0, 2, 3, 4, 5, 22, 23] p9_8)
 .ret))))

theorem s9 : strip Try.prog 46 [0, 2, 3, 4, 5, 22, 23] [24, 33] (Try.f9.body.getD .skip) = c9 := by kernel_rfl
theorem b9 : Try.f9.body = some (Try.f9.body.getD .skip) := by kernel_rfl
theorem n9 : (Try.f9.name == "runtime.NumGoroutine") = false := by kernel_rfl
theorem m9 : Try.f9.ntmps = 46 := by kernel_rfl
theorem r9 : Try.f9.results.toList = [.tmp 2, .tmp 3] := by kernel_rfl
/-- The walk begins. -/
theorem enter9 {args : List Value} {h : AHeap} {Q : Value → AHeap → Prop} (hr : SW Try.prog 46 c9 (params args) h (retQ Try.prog [.tmp 2, .tmp 3] Q)) : ACallW Try.prog 9 args h Q :=
  acall_intro Try.func9 b9 n9 r9 s9 hr

end Go.Proofs.Ytbcgcnmnblfhmaa
