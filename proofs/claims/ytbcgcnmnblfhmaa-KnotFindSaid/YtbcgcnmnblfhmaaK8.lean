/- The code of function 8, weathervane/weathervanelaw16.awake, each region as one path. Written by gen.py. -/
import Derived.Test.YtbcgcnmnblfhmaaLin15
import Derived.Test.YtbcgcnmnblfhmaaProg
import Derived.KernelRfl
namespace Go.Proofs.Ytbcgcnmnblfhmaa
open Lin

/-- law.go:9 -/
def p8_0 : Path := [
  (⟨0, some 0, (.assign (.const (.bool false))), none⟩, [])]
/-- law.go:10 -/
def p8_1 : Path := [
  (⟨0, some 4, (.buildSlice 24 1 #[(0, (.const (.int .i64 1)))]), none⟩, []),
  (⟨1, some 5, (.buildSlice 24 1 #[(0, (.const (.int .i64 0)))]), none⟩, []),
  (⟨2, some 6, (.buildSlice 24 1 #[(0, (.const (.int .i64 1)))]), none⟩, []),
  (⟨3, some 7, (.buildSlice 22 3 #[(0, (.tmp 4)), (1, (.tmp 5)), (2, (.tmp 6))]), none⟩, []),
  (⟨4, some 8, (.call { callee := (.value (.func 9)), args := #[(.tmp 7)], argTypes := #[22] }), none⟩, []),
  (⟨5, some 3, (.move (.tmp 8)), none⟩, []),
  (⟨6, some 9, (.extract (.tmp 3) 0), none⟩, []),
  (⟨7, some 10, (.extract (.tmp 3) 1), none⟩, []),
  (⟨8, some 1, (.assign (.tmp 9)), none⟩, []),
  (⟨9, some 2, (.assign (.tmp 10)), none⟩, [])]
/-- law.go:11 -/
def p8_2 : Path := [
  (⟨0, some 11, (.move (.tmp 1)), none⟩, []),
  (⟨1, some 12, (.call { callee := (.builtin .len), args := #[(.tmp 11)], argTypes := #[22] }), none⟩, []),
  (⟨2, some 13, (.binOp .eql 3 (.tmp 12) (.const (.int .i64 2)) 3), none⟩, []),
  (⟨3, some 14, (.move (.tmp 13)), none⟩, []),
  (⟨4, some 15, (.move (.tmp 1)), (some (14, true))⟩, []),
  (⟨5, some 16, (.indexAddr 22 (.tmp 15) (.const (.int .i64 0))), (some (14, true))⟩, []),
  (⟨6, some 17, (.load 24 (.tmp 16)), (some (14, true))⟩, []),
  (⟨7, some 18, (.call { callee := (.builtin .len), args := #[(.tmp 17)], argTypes := #[24] }), (some (14, true))⟩, []),
  (⟨8, some 19, (.binOp .eql 3 (.tmp 18) (.const (.int .i64 2)) 3), (some (14, true))⟩, []),
  (⟨9, some 20, (.pick (.tmp 14) (.tmp 19) (.const (.bool false))), none⟩, []),
  (⟨10, some 21, (.move (.tmp 20)), none⟩, []),
  (⟨11, some 22, (.move (.tmp 1)), (some (21, true))⟩, []),
  (⟨12, some 23, (.indexAddr 22 (.tmp 22) (.const (.int .i64 0))), (some (21, true))⟩, []),
  (⟨13, some 24, (.load 24 (.tmp 23)), (some (21, true))⟩, []),
  (⟨14, some 25, (.indexAddr 24 (.tmp 24) (.const (.int .i64 1))), (some (21, true))⟩, []),
  (⟨15, some 26, (.load 3 (.tmp 25)), (some (21, true))⟩, []),
  (⟨16, some 27, (.binOp .eql 3 (.tmp 26) (.const (.int .i64 1)) 3), (some (21, true))⟩, []),
  (⟨17, some 28, (.pick (.tmp 21) (.tmp 27) (.const (.bool false))), none⟩, []),
  (⟨18, some 29, (.move (.tmp 28)), none⟩, []),
  (⟨19, some 30, (.move (.tmp 2)), (some (29, true))⟩, []),
  (⟨20, some 31, (.call { callee := (.builtin .len), args := #[(.tmp 30)], argTypes := #[24] }), (some (29, true))⟩, []),
  (⟨21, some 32, (.binOp .eql 3 (.tmp 31) (.const (.int .i64 3)) 3), (some (29, true))⟩, []),
  (⟨22, some 33, (.pick (.tmp 29) (.tmp 32) (.const (.bool false))), none⟩, []),
  (⟨23, some 34, (.move (.tmp 33)), none⟩, []),
  (⟨24, some 35, (.move (.tmp 2)), (some (34, true))⟩, []),
  (⟨25, some 36, (.indexAddr 24 (.tmp 35) (.const (.int .i64 2))), (some (34, true))⟩, []),
  (⟨26, some 37, (.load 3 (.tmp 36)), (some (34, true))⟩, []),
  (⟨27, some 38, (.binOp .eql 3 (.tmp 37) (.const (.int .i64 1)) 3), (some (34, true))⟩, []),
  (⟨28, some 39, (.pick (.tmp 34) (.tmp 38) (.const (.bool false))), none⟩, []),
  (⟨29, some 0, (.assign (.tmp 39)), none⟩, [])]

def c8 : SCode :=
 (.seq (.reg 1 [0, 1, 2] p8_0)
 (.seq (.reg 10 [0, 1, 2] p8_1)
 (.seq (.reg 30 [0, 1, 2] p8_2)
 .ret)))

theorem s8 : strip Try.prog 40 [0, 1, 2] [] (Try.f8.body.getD .skip) = c8 := by kernel_rfl
theorem b8 : Try.f8.body = some (Try.f8.body.getD .skip) := by kernel_rfl
theorem n8 : (Try.f8.name == "runtime.NumGoroutine") = false := by kernel_rfl
theorem m8 : Try.f8.ntmps = 40 := by kernel_rfl
theorem r8 : Try.f8.results.toList = [.tmp 0] := by kernel_rfl
/-- The walk begins. -/
theorem enter8 {args : List Value} {h : AHeap} {Q : Value → AHeap → Prop} (hr : SW Try.prog 40 c8 (params args) h (retQ Try.prog [.tmp 0] Q)) : ACallW Try.prog 8 args h Q :=
  acall_intro Try.func8 b8 n8 r8 s8 hr

end Go.Proofs.Ytbcgcnmnblfhmaa
