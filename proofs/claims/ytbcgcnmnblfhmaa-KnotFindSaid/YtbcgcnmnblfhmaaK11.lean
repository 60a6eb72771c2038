/- The code of function 11, (*weathervane/knot.tarjan).enter, each region as one path. Written by gen.py. -/
import Derived.Test.YtbcgcnmnblfhmaaLin15
import Derived.Test.YtbcgcnmnblfhmaaProg
import Derived.KernelRfl
namespace Go.Proofs.Ytbcgcnmnblfhmaa
open Lin

/-- knot.go:36 -/
def p11_0 : Path := [
  (⟨0, some 4, (.alloc 40), none⟩, [])]
/-- knot.go:37 -/
def p11_1 : Path := [
  (⟨0, some 5, (.move (.tmp 0)), none⟩, []),
  (⟨1, some 6, (.nilCheck (.tmp 5)), none⟩, []),
  (⟨2, some 7, (.fieldAddr 37 (.tmp 6) 6), none⟩, []),
  (⟨3, some 8, (.load 3 (.tmp 7)), none⟩, []),
  (⟨4, some 9, (.binOp .add 3 (.tmp 8) (.const (.int .i64 1)) 3), none⟩, []),
  (⟨5, some 10, (.nilCheck (.tmp 5)), none⟩, []),
  (⟨6, some 11, (.fieldAddr 37 (.tmp 10) 6), none⟩, []),
  (⟨7, none, (.store 3 (.tmp 11) (.tmp 9)), none⟩, [])]
/-- knot.go:38 -/
def p11_2 : Path := [
  (⟨0, some 12, (.move (.tmp 0)), none⟩, []),
  (⟨1, some 13, (.nilCheck (.tmp 12)), none⟩, []),
  (⟨2, some 14, (.fieldAddr 37 (.tmp 13) 1), none⟩, []),
  (⟨3, some 15, (.load 24 (.tmp 14)), none⟩, []),
  (⟨4, some 16, (.move (.tmp 1)), none⟩, []),
  (⟨5, some 17, (.move (.tmp 0)), none⟩, []),
  (⟨6, some 18, (.nilCheck (.tmp 17)), none⟩, []),
  (⟨7, some 19, (.fieldAddr 37 (.tmp 18) 2), none⟩, []),
  (⟨8, some 20, (.load 24 (.tmp 19)), none⟩, []),
  (⟨9, some 21, (.move (.tmp 1)), none⟩, []),
  (⟨10, some 22, (.move (.tmp 0)), none⟩, []),
  (⟨11, some 23, (.nilCheck (.tmp 22)), none⟩, []),
  (⟨12, some 24, (.fieldAddr 37 (.tmp 23) 3), none⟩, []),
  (⟨13, some 25, (.load 27 (.tmp 24)), none⟩, []),
  (⟨14, some 26, (.move (.tmp 1)), none⟩, []),
  (⟨15, some 27, (.move (.tmp 0)), none⟩, []),
  (⟨16, some 28, (.nilCheck (.tmp 27)), none⟩, []),
  (⟨17, some 29, (.fieldAddr 37 (.tmp 28) 6), none⟩, []),
  (⟨18, some 30, (.load 3 (.tmp 29)), none⟩, []),
  (⟨19, some 31, (.move (.tmp 0)), none⟩, []),
  (⟨20, some 32, (.nilCheck (.tmp 31)), none⟩, []),
  (⟨21, some 33, (.fieldAddr 37 (.tmp 32) 6), none⟩, []),
  (⟨22, some 34, (.load 3 (.tmp 33)), none⟩, []),
  (⟨23, some 35, (.indexAddr 24 (.tmp 15) (.tmp 16)), none⟩, []),
  (⟨24, none, (.store 3 (.tmp 35) (.tmp 30)), none⟩, []),
  (⟨25, some 36, (.indexAddr 24 (.tmp 20) (.tmp 21)), none⟩, []),
  (⟨26, none, (.store 3 (.tmp 36) (.tmp 34)), none⟩, []),
  (⟨27, some 37, (.indexAddr 27 (.tmp 25) (.tmp 26)), none⟩, []),
  (⟨28, none, (.store 4 (.tmp 37) (.const (.bool true))), none⟩, [])]
/-- knot.go:39 -/
def p11_3 : Path := [
  (⟨0, some 38, (.move (.tmp 0)), none⟩, []),
  (⟨1, some 39, (.move (.tmp 0)), none⟩, []),
  (⟨2, some 40, (.nilCheck (.tmp 39)), none⟩, []),
  (⟨3, some 41, (.fieldAddr 37 (.tmp 40) 4), none⟩, []),
  (⟨4, some 42, (.load 24 (.tmp 41)), none⟩, []),
  (⟨5, some 43, (.move (.tmp 1)), none⟩, []),
  (⟨6, some 44, (.buildSlice 24 1 #[(0, (.tmp 43))]), none⟩, []),
  (⟨7, some 45, (.call { callee := (.builtin .append), args := #[(.tmp 42), (.tmp 44)], argTypes := #[24, 24] }), none⟩, []),
  (⟨8, some 46, (.nilCheck (.tmp 38)), none⟩, []),
  (⟨9, some 47, (.fieldAddr 37 (.tmp 46) 4), none⟩, []),
  (⟨10, none, (.store 24 (.tmp 47) (.tmp 45)), none⟩, [])]
/-- knot.go:40 -/
def p11_4 : Path := [
  (⟨0, some 48, (.move (.tmp 1)), none⟩, []),
  (⟨1, some 49, (.build 40 #[(0, (.tmp 48))]), none⟩, []),
  (⟨2, none, (.store 40 (.tmp 4) (.tmp 49)), none⟩, [])]

def c11 : SCode :=
 (.seq (.reg 1 [0, 1, 4] p11_0)
 (.seq (.reg 8 [0, 1, 4] p11_1)
 (.seq (.reg 29 [0, 1, 4] p11_2)
 (.seq (.reg 11 [0, 1, 4] p11_3)
 (.seq (.reg 3 [0, 1, 4] p11_4)
 .ret)))))

theorem s11 : strip Try.prog 50 [0, 1, 4] [] (Try.f11.body.getD .skip) = c11 := by kernel_rfl
theorem b11 : Try.f11.body = some (Try.f11.body.getD .skip) := by kernel_rfl
theorem n11 : (Try.f11.name == "runtime.NumGoroutine") = false := by kernel_rfl
theorem m11 : Try.f11.ntmps = 50 := by kernel_rfl
theorem r11 : Try.f11.results.toList = [.cell 4 40] := by kernel_rfl
/-- The walk begins. -/
theorem enter11 {args : List Value} {h : AHeap} {Q : Value → AHeap → Prop} (hr : SW Try.prog 50 c11 (params args) h (retQ Try.prog [.cell 4 40] Q)) : ACallW Try.prog 11 args h Q :=
  acall_intro Try.func11 b11 n11 r11 s11 hr

end Go.Proofs.Ytbcgcnmnblfhmaa
