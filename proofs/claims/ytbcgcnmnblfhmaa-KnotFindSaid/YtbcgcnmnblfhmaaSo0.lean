/- slices.Sort of ints, by the shelf's contract: the laying in plain words, as the shelf's tool writes it. -/
import Derived.Shelf.Sort.Plain
import Derived.Shelf.Slices.In.SortNone
import Derived.Test.YtbcgcnmnblfhmaaProg
namespace Go.Proofs
open Go.Shelf
def Try.lays189_ren : Go.Shelf.Ren := ⟨fun | 189 => 13 | 125 => 15 | 257 => 14 | 128 => 25 | 129 => 26 | 294 => 16 | 295 => 17 | 296 => 18 | 297 => 19 | 298 => 20 | 299 => 21 | 216 => 22 | 300 => 23 | 301 => 24 | 328 => 27 | 329 => 28 | 330 => 29 | 331 => 30 | 332 => 31 | 215 => 32 | 343 => 33 | n => n, fun | 28 => 24 | 3 => 3 | 46 => 25 | 0 => 0 | 51 => 57 | 53 => 59 | 4 => 4 | 183 => 49 | 182 => 48 | 131 => 54 | 5 => 5 | 9 => 9 | 218 => 60 | 222 => 64 | 228 => 67 | 229 => 68 | n => n, fun | n => n⟩
theorem Try.lays189 : Go.Proofs.Lays.n189 Try.prog Try.lays189_ren := {
  mixed := by kernel_rfl
  f125 := Try.func15.trans (congrArg some (by kernel_rfl))
  f128 := Try.func25.trans (congrArg some (by kernel_rfl))
  f129 := Try.func26.trans (congrArg some (by kernel_rfl))
  f189 := Try.func13.trans (congrArg some (by kernel_rfl))
  f215 := Try.func32.trans (congrArg some (by kernel_rfl))
  f216 := Try.func22.trans (congrArg some (by kernel_rfl))
  f257 := Try.func14.trans (congrArg some (by kernel_rfl))
  f294 := Try.func16.trans (congrArg some (by kernel_rfl))
  f295 := Try.func17.trans (congrArg some (by kernel_rfl))
  f296 := Try.func18.trans (congrArg some (by kernel_rfl))
  f297 := Try.func19.trans (congrArg some (by kernel_rfl))
  f298 := Try.func20.trans (congrArg some (by kernel_rfl))
  f299 := Try.func21.trans (congrArg some (by kernel_rfl))
  f300 := Try.func23.trans (congrArg some (by kernel_rfl))
  f301 := Try.func24.trans (congrArg some (by kernel_rfl))
  f328 := Try.func27.trans (congrArg some (by kernel_rfl))
  f329 := Try.func28.trans (congrArg some (by kernel_rfl))
  f330 := Try.func29.trans (congrArg some (by kernel_rfl))
  f331 := Try.func30.trans (congrArg some (by kernel_rfl))
  f332 := Try.func31.trans (congrArg some (by kernel_rfl))
  f343 := Try.func33.trans (congrArg some (by kernel_rfl))
  t0 := Try.underlying0
  a0 := Try.isAgg0
  z0 := Try.sizeOf0
  v0 := Try.zeroValue0
  t3 := Try.underlying3
  a3 := Try.isAgg3
  z3 := Try.sizeOf3
  v3 := Try.zeroValue3
  t4 := Try.underlying4
  a4 := Try.isAgg4
  z4 := Try.sizeOf4
  v4 := Try.zeroValue4
  t5 := Try.underlying5
  a5 := Try.isAgg5
  z5 := Try.sizeOf5
  v5 := Try.zeroValue5
  t9 := Try.underlying9
  a9 := Try.isAgg9
  z9 := Try.sizeOf9
  v9 := Try.zeroValue9
  t28 := Try.underlying24
  a28 := Try.isAgg24
  z28 := Try.sizeOf24
  v28 := Try.zeroValue24
  t46 := Try.underlying25
  a46 := Try.isAgg25
  z46 := Try.sizeOf25
  v46 := Try.zeroValue25
  t51 := Try.underlying57
  a51 := Try.isAgg57
  z51 := Try.sizeOf57
  v51 := Try.zeroValue57
  t53 := Try.underlying59
  a53 := Try.isAgg59
  z53 := Try.sizeOf59
  v53 := Try.zeroValue59
  t131 := Try.underlying54
  a131 := Try.isAgg54
  z131 := Try.sizeOf54
  v131 := Try.zeroValue54
  t182 := Try.underlying48
  a182 := Try.isAgg48
  z182 := Try.sizeOf48
  v182 := Try.zeroValue48
  t183 := Try.underlying49
  a183 := Try.isAgg49
  z183 := Try.sizeOf49
  v183 := Try.zeroValue49
  t218 := Try.underlying60
  a218 := Try.isAgg60
  z218 := Try.sizeOf60
  v218 := Try.zeroValue60
  t222 := Try.underlying64
  a222 := Try.isAgg64
  z222 := Try.sizeOf64
  v222 := Try.zeroValue64
  t228 := Try.underlying67
  a228 := Try.isAgg67
  z228 := Try.sizeOf67
  v228 := Try.zeroValue67
  t229 := Try.underlying68
  a229 := Try.isAgg68
  z229 := Try.sizeOf68
  v229 := Try.zeroValue68 }
open Go.Sort Go.RowKit in
theorem Try.slices_Sort_int (blk off cap : Nat) (zs : List Int) (w : World) (hH : Holds (Value.int .i64) w blk off zs.toArray) (hblk : blk < w.heap.size) (hsz : zs.length < 4611686018427387904) :
    Calls Try.prog 13 #[.slice (some ⟨blk, off, none⟩) zs.length cap] w fun e w' =>
      e = .returned (.tuple #[]) ∧ ∃ n os, w' = grow (putRow (Value.int .i64) (Sort.ahead w n) blk off (zs.mergeSort fun x y => decide (x ≤ y)).toArray) os := Any.slices_Sort_int Try.lays189 blk off cap zs w hH hblk hsz
theorem Try.slices_Sort_none (p : Option Addr) (cap : Nat) (w : World) : Calls Try.prog 13 #[.slice p 0 cap] w fun e w' => e = .returned (.tuple #[]) ∧ w' = w := Any.slices_Sort_int_none Try.lays189 p cap w
end Go.Proofs
namespace Go.Proofs.Ytbcgcnmnblfhmaa
open Go.Shelf Go.Sort Go.RowKit
theorem sort_ints (blk off cap : Nat) (zs : List Int) (w : World) (hH : Holds (Value.int .i64) w blk off zs.toArray) (hblk : blk < w.heap.size) (hsz : zs.length < 4611686018427387904) :
    Calls Try.prog 13 #[.slice (some ⟨blk, off, none⟩) zs.length cap] w fun e w' =>
      e = .returned (.tuple #[]) ∧ ∃ n os, w' = grow (putRow (Value.int .i64) (Sort.ahead w n) blk off (zs.mergeSort fun x y => decide (x ≤ y)).toArray) os := Try.slices_Sort_int blk off cap zs w hH hblk hsz
theorem sort_none (p : Option Addr) (cap : Nat) (w : World) : Calls Try.prog 13 #[.slice p 0 cap] w fun e w' => e = .returned (.tuple #[]) ∧ w' = w := Try.slices_Sort_none p cap w
end Go.Proofs.Ytbcgcnmnblfhmaa
