/- What the model answers about the types of this translation. Written by gent.py. -/
import Derived.Test.YtbcgcnmnblfhmaaLin16
import Derived.Test.YtbcgcnmnblfhmaaProg
import Derived.KernelRfl
namespace Go.Proofs.Ytbcgcnmnblfhmaa
open Lin

theorem mixed : Try.prog.follows .mixedOrders = true := by kernel_rfl
@[simp] theorem sz2 : szOf Try.prog 2 = some 1 := by kernel_rfl
@[simp] theorem ag2 : aggT Try.prog 2 = some false := by kernel_rfl
attribute [simp] Try.underlying2
noncomputable def I2 : TypeInfo := (Try.prog.info? 2).getD default
@[simp] theorem i2 : Try.prog.info? 2 = some I2 := by kernel_rfl
@[simp] theorem I2_size : I2.size = 1 := by kernel_rfl
@[simp] theorem I2_bytes : I2.bytes = 8 := by kernel_rfl
@[simp] theorem I2_zero : I2.zero = some (.int .i64 0) := by kernel_rfl
@[simp] theorem al2 (e : FEnv) : aAlloc Try.prog (.alloc 2) e = some (.arr true 2 [.int .i64 0], fun id => .pointer (some ⟨id, 0, none⟩)) := by kernel_rfl
@[simp] theorem sz3 : szOf Try.prog 3 = some 1 := by kernel_rfl
@[simp] theorem ag3 : aggT Try.prog 3 = some false := by kernel_rfl
attribute [simp] Try.underlying3
noncomputable def I3 : TypeInfo := (Try.prog.info? 3).getD default
@[simp] theorem i3 : Try.prog.info? 3 = some I3 := by kernel_rfl
@[simp] theorem I3_size : I3.size = 1 := by kernel_rfl
@[simp] theorem I3_bytes : I3.bytes = 8 := by kernel_rfl
@[simp] theorem I3_zero : I3.zero = some (.int .i64 0) := by kernel_rfl
@[simp] theorem al3 (e : FEnv) : aAlloc Try.prog (.alloc 3) e = some (.arr true 3 [.int .i64 0], fun id => .pointer (some ⟨id, 0, none⟩)) := by kernel_rfl
@[simp] theorem sz4 : szOf Try.prog 4 = some 1 := by kernel_rfl
@[simp] theorem ag4 : aggT Try.prog 4 = some false := by kernel_rfl
attribute [simp] Try.underlying4
noncomputable def I4 : TypeInfo := (Try.prog.info? 4).getD default
@[simp] theorem i4 : Try.prog.info? 4 = some I4 := by kernel_rfl
@[simp] theorem I4_size : I4.size = 1 := by kernel_rfl
@[simp] theorem I4_bytes : I4.bytes = 1 := by kernel_rfl
@[simp] theorem I4_zero : I4.zero = some (.bool false) := by kernel_rfl
@[simp] theorem al4 (e : FEnv) : aAlloc Try.prog (.alloc 4) e = some (.arr true 4 [.bool false], fun id => .pointer (some ⟨id, 0, none⟩)) := by kernel_rfl
@[simp] theorem sz5 : szOf Try.prog 5 = some 1 := by kernel_rfl
@[simp] theorem ag5 : aggT Try.prog 5 = some false := by kernel_rfl
attribute [simp] Try.underlying5
noncomputable def I5 : TypeInfo := (Try.prog.info? 5).getD default
@[simp] theorem i5 : Try.prog.info? 5 = some I5 := by kernel_rfl
@[simp] theorem I5_size : I5.size = 1 := by kernel_rfl
@[simp] theorem I5_bytes : I5.bytes = 1 := by kernel_rfl
@[simp] theorem I5_zero : I5.zero = some (.int .u8 0) := by kernel_rfl
@[simp] theorem al5 (e : FEnv) : aAlloc Try.prog (.alloc 5) e = some (.arr true 5 [.int .u8 0], fun id => .pointer (some ⟨id, 0, none⟩)) := by kernel_rfl
@[simp] theorem sz6 : szOf Try.prog 6 = some 1 := by kernel_rfl
@[simp] theorem ag6 : aggT Try.prog 6 = some false := by kernel_rfl
attribute [simp] Try.underlying6
noncomputable def I6 : TypeInfo := (Try.prog.info? 6).getD default
@[simp] theorem i6 : Try.prog.info? 6 = some I6 := by kernel_rfl
@[simp] theorem I6_size : I6.size = 1 := by kernel_rfl
@[simp] theorem I6_bytes : I6.bytes = 1 := by kernel_rfl
@[simp] theorem I6_zero : I6.zero = some (.int .u8 0) := by kernel_rfl
@[simp] theorem al6 (e : FEnv) : aAlloc Try.prog (.alloc 6) e = some (.arr true 6 [.int .u8 0], fun id => .pointer (some ⟨id, 0, none⟩)) := by kernel_rfl
@[simp] theorem sz7 : szOf Try.prog 7 = some 4 := by kernel_rfl
@[simp] theorem ag7 : aggT Try.prog 7 = some true := by kernel_rfl
attribute [simp] Try.underlying7
noncomputable def I7 : TypeInfo := (Try.prog.info? 7).getD default
@[simp] theorem i7 : Try.prog.info? 7 = some I7 := by kernel_rfl
@[simp] theorem I7_size : I7.size = 4 := by kernel_rfl
@[simp] theorem I7_bytes : I7.bytes = 24 := by kernel_rfl
@[simp] theorem I7_zero : I7.zero = some (.agg #[.int .i64 0, .int .i64 0, .bool false, .int .u8 0]) := by kernel_rfl
@[simp] theorem al7 (e : FEnv) : aAlloc Try.prog (.alloc 7) e = some (.arr true 7 [.int .i64 0, .int .i64 0, .bool false, .int .u8 0], fun id => .pointer (some ⟨id, 0, none⟩)) := by kernel_rfl
@[simp] theorem sz8 : szOf Try.prog 8 = some 4 := by kernel_rfl
@[simp] theorem ag8 : aggT Try.prog 8 = some true := by kernel_rfl
attribute [simp] Try.underlying8
noncomputable def I8 : TypeInfo := (Try.prog.info? 8).getD default
@[simp] theorem i8 : Try.prog.info? 8 = some I8 := by kernel_rfl
@[simp] theorem I8_size : I8.size = 4 := by kernel_rfl
@[simp] theorem I8_bytes : I8.bytes = 24 := by kernel_rfl
@[simp] theorem I8_zero : I8.zero = some (.agg #[.int .i64 0, .int .i64 0, .bool false, .int .u8 0]) := by kernel_rfl
@[simp] theorem al8 (e : FEnv) : aAlloc Try.prog (.alloc 8) e = some (.arr true 8 [.int .i64 0, .int .i64 0, .bool false, .int .u8 0], fun id => .pointer (some ⟨id, 0, none⟩)) := by kernel_rfl
@[simp] theorem sz9 : szOf Try.prog 9 = some 1 := by kernel_rfl
@[simp] theorem ag9 : aggT Try.prog 9 = some false := by kernel_rfl
attribute [simp] Try.underlying9
noncomputable def I9 : TypeInfo := (Try.prog.info? 9).getD default
@[simp] theorem i9 : Try.prog.info? 9 = some I9 := by kernel_rfl
@[simp] theorem I9_size : I9.size = 1 := by kernel_rfl
@[simp] theorem I9_bytes : I9.bytes = 16 := by kernel_rfl
@[simp] theorem I9_zero : I9.zero = some (.string ByteArray.empty) := by kernel_rfl
@[simp] theorem al9 (e : FEnv) : aAlloc Try.prog (.alloc 9) e = some (.arr true 9 [.string ByteArray.empty], fun id => .pointer (some ⟨id, 0, none⟩)) := by kernel_rfl
@[simp] theorem sz10 : szOf Try.prog 10 = some 1 := by kernel_rfl
@[simp] theorem ag10 : aggT Try.prog 10 = some false := by kernel_rfl
attribute [simp] Try.underlying10
noncomputable def I10 : TypeInfo := (Try.prog.info? 10).getD default
@[simp] theorem i10 : Try.prog.info? 10 = some I10 := by kernel_rfl
@[simp] theorem I10_size : I10.size = 1 := by kernel_rfl
@[simp] theorem I10_bytes : I10.bytes = 16 := by kernel_rfl
@[simp] theorem I10_zero : I10.zero = some (.string ByteArray.empty) := by kernel_rfl
@[simp] theorem al10 (e : FEnv) : aAlloc Try.prog (.alloc 10) e = some (.arr true 10 [.string ByteArray.empty], fun id => .pointer (some ⟨id, 0, none⟩)) := by kernel_rfl
@[simp] theorem sz11 : szOf Try.prog 11 = some 1 := by kernel_rfl
@[simp] theorem ag11 : aggT Try.prog 11 = some false := by kernel_rfl
attribute [simp] Try.underlying11
noncomputable def I11 : TypeInfo := (Try.prog.info? 11).getD default
@[simp] theorem i11 : Try.prog.info? 11 = some I11 := by kernel_rfl
@[simp] theorem I11_size : I11.size = 1 := by kernel_rfl
@[simp] theorem I11_bytes : I11.bytes = 16 := by kernel_rfl
@[simp] theorem I11_zero : I11.zero = some (.string ByteArray.empty) := by kernel_rfl
@[simp] theorem al11 (e : FEnv) : aAlloc Try.prog (.alloc 11) e = some (.arr true 11 [.string ByteArray.empty], fun id => .pointer (some ⟨id, 0, none⟩)) := by kernel_rfl
@[simp] theorem sz12 : szOf Try.prog 12 = some 1 := by kernel_rfl
@[simp] theorem ag12 : aggT Try.prog 12 = some false := by kernel_rfl
attribute [simp] Try.underlying12
noncomputable def I12 : TypeInfo := (Try.prog.info? 12).getD default
@[simp] theorem i12 : Try.prog.info? 12 = some I12 := by kernel_rfl
@[simp] theorem I12_size : I12.size = 1 := by kernel_rfl
@[simp] theorem I12_bytes : I12.bytes = 8 := by kernel_rfl
@[simp] theorem I12_zero : I12.zero = some (.int .u64 0) := by kernel_rfl
@[simp] theorem al12 (e : FEnv) : aAlloc Try.prog (.alloc 12) e = some (.arr true 12 [.int .u64 0], fun id => .pointer (some ⟨id, 0, none⟩)) := by kernel_rfl
@[simp] theorem sz13 : szOf Try.prog 13 = some 2 := by kernel_rfl
@[simp] theorem ag13 : aggT Try.prog 13 = some true := by kernel_rfl
attribute [simp] Try.underlying13
noncomputable def I13 : TypeInfo := (Try.prog.info? 13).getD default
@[simp] theorem i13 : Try.prog.info? 13 = some I13 := by kernel_rfl
@[simp] theorem I13_size : I13.size = 2 := by kernel_rfl
@[simp] theorem I13_bytes : I13.bytes = 24 := by kernel_rfl
@[simp] theorem I13_zero : I13.zero = some (.agg #[.string ByteArray.empty, .int .u64 0]) := by kernel_rfl
@[simp] theorem al13 (e : FEnv) : aAlloc Try.prog (.alloc 13) e = some (.arr true 13 [.string ByteArray.empty, .int .u64 0], fun id => .pointer (some ⟨id, 0, none⟩)) := by kernel_rfl
@[simp] theorem sz14 : szOf Try.prog 14 = some 2 := by kernel_rfl
@[simp] theorem ag14 : aggT Try.prog 14 = some true := by kernel_rfl
attribute [simp] Try.underlying14
noncomputable def I14 : TypeInfo := (Try.prog.info? 14).getD default
@[simp] theorem i14 : Try.prog.info? 14 = some I14 := by kernel_rfl
@[simp] theorem I14_size : I14.size = 2 := by kernel_rfl
@[simp] theorem I14_bytes : I14.bytes = 24 := by kernel_rfl
@[simp] theorem I14_zero : I14.zero = some (.agg #[.string ByteArray.empty, .int .u64 0]) := by kernel_rfl
@[simp] theorem al14 (e : FEnv) : aAlloc Try.prog (.alloc 14) e = some (.arr true 14 [.string ByteArray.empty, .int .u64 0], fun id => .pointer (some ⟨id, 0, none⟩)) := by kernel_rfl
@[simp] theorem sz15 : szOf Try.prog 15 = some 1 := by kernel_rfl
@[simp] theorem ag15 : aggT Try.prog 15 = some false := by kernel_rfl
attribute [simp] Try.underlying15
noncomputable def I15 : TypeInfo := (Try.prog.info? 15).getD default
@[simp] theorem i15 : Try.prog.info? 15 = some I15 := by kernel_rfl
@[simp] theorem I15_size : I15.size = 1 := by kernel_rfl
@[simp] theorem I15_bytes : I15.bytes = 8 := by kernel_rfl
@[simp] theorem I15_zero : I15.zero = some (.pointer none) := by kernel_rfl
@[simp] theorem al15 (e : FEnv) : aAlloc Try.prog (.alloc 15) e = some (.arr true 15 [.pointer none], fun id => .pointer (some ⟨id, 0, none⟩)) := by kernel_rfl
@[simp] theorem sz16 : szOf Try.prog 16 = some 1 := by kernel_rfl
@[simp] theorem ag16 : aggT Try.prog 16 = some false := by kernel_rfl
attribute [simp] Try.underlying16
noncomputable def I16 : TypeInfo := (Try.prog.info? 16).getD default
@[simp] theorem i16 : Try.prog.info? 16 = some I16 := by kernel_rfl
@[simp] theorem I16_size : I16.size = 1 := by kernel_rfl
@[simp] theorem I16_bytes : I16.bytes = 8 := by kernel_rfl
@[simp] theorem I16_zero : I16.zero = some (.pointer none) := by kernel_rfl
@[simp] theorem al16 (e : FEnv) : aAlloc Try.prog (.alloc 16) e = some (.arr true 16 [.pointer none], fun id => .pointer (some ⟨id, 0, none⟩)) := by kernel_rfl
@[simp] theorem sz17 : szOf Try.prog 17 = some 1 := by kernel_rfl
@[simp] theorem ag17 : aggT Try.prog 17 = some false := by kernel_rfl
attribute [simp] Try.underlying17
noncomputable def I17 : TypeInfo := (Try.prog.info? 17).getD default
@[simp] theorem i17 : Try.prog.info? 17 = some I17 := by kernel_rfl
@[simp] theorem I17_size : I17.size = 1 := by kernel_rfl
@[simp] theorem I17_bytes : I17.bytes = 8 := by kernel_rfl
@[simp] theorem I17_zero : I17.zero = some (.pointer none) := by kernel_rfl
@[simp] theorem al17 (e : FEnv) : aAlloc Try.prog (.alloc 17) e = some (.arr true 17 [.pointer none], fun id => .pointer (some ⟨id, 0, none⟩)) := by kernel_rfl
@[simp] theorem sz18 : szOf Try.prog 18 = some 1 := by kernel_rfl
@[simp] theorem ag18 : aggT Try.prog 18 = some true := by kernel_rfl
attribute [simp] Try.underlying18
noncomputable def I18 : TypeInfo := (Try.prog.info? 18).getD default
@[simp] theorem i18 : Try.prog.info? 18 = some I18 := by kernel_rfl
@[simp] theorem I18_size : I18.size = 1 := by kernel_rfl
@[simp] theorem I18_bytes : I18.bytes = 8 := by kernel_rfl
@[simp] theorem I18_zero : I18.zero = some (.agg #[.pointer none]) := by kernel_rfl
@[simp] theorem al18 (e : FEnv) : aAlloc Try.prog (.alloc 18) e = some (.arr true 18 [.pointer none], fun id => .pointer (some ⟨id, 0, none⟩)) := by kernel_rfl
@[simp] theorem sz19 : szOf Try.prog 19 = some 1 := by kernel_rfl
@[simp] theorem ag19 : aggT Try.prog 19 = some true := by kernel_rfl
attribute [simp] Try.underlying19
noncomputable def I19 : TypeInfo := (Try.prog.info? 19).getD default
@[simp] theorem i19 : Try.prog.info? 19 = some I19 := by kernel_rfl
@[simp] theorem I19_size : I19.size = 1 := by kernel_rfl
@[simp] theorem I19_bytes : I19.bytes = 8 := by kernel_rfl
@[simp] theorem I19_zero : I19.zero = some (.agg #[.pointer none]) := by kernel_rfl
@[simp] theorem al19 (e : FEnv) : aAlloc Try.prog (.alloc 19) e = some (.arr true 19 [.pointer none], fun id => .pointer (some ⟨id, 0, none⟩)) := by kernel_rfl
@[simp] theorem sz21 : szOf Try.prog 21 = some 1 := by kernel_rfl
@[simp] theorem ag21 : aggT Try.prog 21 = some false := by kernel_rfl
attribute [simp] Try.underlying21
noncomputable def I21 : TypeInfo := (Try.prog.info? 21).getD default
@[simp] theorem i21 : Try.prog.info? 21 = some I21 := by kernel_rfl
@[simp] theorem I21_size : I21.size = 1 := by kernel_rfl
@[simp] theorem I21_bytes : I21.bytes = 4 := by kernel_rfl
@[simp] theorem I21_zero : I21.zero = some (.int .i32 0) := by kernel_rfl
@[simp] theorem al21 (e : FEnv) : aAlloc Try.prog (.alloc 21) e = some (.arr true 21 [.int .i32 0], fun id => .pointer (some ⟨id, 0, none⟩)) := by kernel_rfl
@[simp] theorem sz22 : szOf Try.prog 22 = some 1 := by kernel_rfl
@[simp] theorem ag22 : aggT Try.prog 22 = some false := by kernel_rfl
attribute [simp] Try.underlying22
noncomputable def I22 : TypeInfo := (Try.prog.info? 22).getD default
@[simp] theorem i22 : Try.prog.info? 22 = some I22 := by kernel_rfl
@[simp] theorem I22_size : I22.size = 1 := by kernel_rfl
@[simp] theorem I22_bytes : I22.bytes = 24 := by kernel_rfl
@[simp] theorem I22_zero : I22.zero = some (.slice none 0 0) := by kernel_rfl
@[simp] theorem al22 (e : FEnv) : aAlloc Try.prog (.alloc 22) e = some (.arr true 22 [.slice none 0 0], fun id => .pointer (some ⟨id, 0, none⟩)) := by kernel_rfl
@[simp] theorem sz24 : szOf Try.prog 24 = some 1 := by kernel_rfl
@[simp] theorem ag24 : aggT Try.prog 24 = some false := by kernel_rfl
attribute [simp] Try.underlying24
noncomputable def I24 : TypeInfo := (Try.prog.info? 24).getD default
@[simp] theorem i24 : Try.prog.info? 24 = some I24 := by kernel_rfl
@[simp] theorem I24_size : I24.size = 1 := by kernel_rfl
@[simp] theorem I24_bytes : I24.bytes = 24 := by kernel_rfl
@[simp] theorem I24_zero : I24.zero = some (.slice none 0 0) := by kernel_rfl
@[simp] theorem al24 (e : FEnv) : aAlloc Try.prog (.alloc 24) e = some (.arr true 24 [.slice none 0 0], fun id => .pointer (some ⟨id, 0, none⟩)) := by kernel_rfl
@[simp] theorem sz25 : szOf Try.prog 25 = some 1 := by kernel_rfl
@[simp] theorem ag25 : aggT Try.prog 25 = some false := by kernel_rfl
attribute [simp] Try.underlying25
noncomputable def I25 : TypeInfo := (Try.prog.info? 25).getD default
@[simp] theorem i25 : Try.prog.info? 25 = some I25 := by kernel_rfl
@[simp] theorem I25_size : I25.size = 1 := by kernel_rfl
@[simp] theorem I25_bytes : I25.bytes = 8 := by kernel_rfl
@[simp] theorem I25_zero : I25.zero = some (.int .u64 0) := by kernel_rfl
@[simp] theorem al25 (e : FEnv) : aAlloc Try.prog (.alloc 25) e = some (.arr true 25 [.int .u64 0], fun id => .pointer (some ⟨id, 0, none⟩)) := by kernel_rfl
@[simp] theorem sz26 : szOf Try.prog 26 = some 1 := by kernel_rfl
@[simp] theorem ag26 : aggT Try.prog 26 = some false := by kernel_rfl
attribute [simp] Try.underlying26
noncomputable def I26 : TypeInfo := (Try.prog.info? 26).getD default
@[simp] theorem i26 : Try.prog.info? 26 = some I26 := by kernel_rfl
@[simp] theorem I26_size : I26.size = 1 := by kernel_rfl
@[simp] theorem I26_bytes : I26.bytes = 24 := by kernel_rfl
@[simp] theorem I26_zero : I26.zero = some (.slice none 0 0) := by kernel_rfl
@[simp] theorem al26 (e : FEnv) : aAlloc Try.prog (.alloc 26) e = some (.arr true 26 [.slice none 0 0], fun id => .pointer (some ⟨id, 0, none⟩)) := by kernel_rfl
@[simp] theorem sz27 : szOf Try.prog 27 = some 1 := by kernel_rfl
@[simp] theorem ag27 : aggT Try.prog 27 = some false := by kernel_rfl
attribute [simp] Try.underlying27
noncomputable def I27 : TypeInfo := (Try.prog.info? 27).getD default
@[simp] theorem i27 : Try.prog.info? 27 = some I27 := by kernel_rfl
@[simp] theorem I27_size : I27.size = 1 := by kernel_rfl
@[simp] theorem I27_bytes : I27.bytes = 24 := by kernel_rfl
@[simp] theorem I27_zero : I27.zero = some (.slice none 0 0) := by kernel_rfl
@[simp] theorem al27 (e : FEnv) : aAlloc Try.prog (.alloc 27) e = some (.arr true 27 [.slice none 0 0], fun id => .pointer (some ⟨id, 0, none⟩)) := by kernel_rfl
@[simp] theorem sz31 : szOf Try.prog 31 = some 1 := by kernel_rfl
@[simp] theorem ag31 : aggT Try.prog 31 = some false := by kernel_rfl
attribute [simp] Try.underlying31
noncomputable def I31 : TypeInfo := (Try.prog.info? 31).getD default
@[simp] theorem i31 : Try.prog.info? 31 = some I31 := by kernel_rfl
@[simp] theorem I31_size : I31.size = 1 := by kernel_rfl
@[simp] theorem I31_bytes : I31.bytes = 2 := by kernel_rfl
@[simp] theorem I31_zero : I31.zero = some (.int .u16 0) := by kernel_rfl
@[simp] theorem al31 (e : FEnv) : aAlloc Try.prog (.alloc 31) e = some (.arr true 31 [.int .u16 0], fun id => .pointer (some ⟨id, 0, none⟩)) := by kernel_rfl
@[simp] theorem sz35 : szOf Try.prog 35 = some 1 := by kernel_rfl
@[simp] theorem ag35 : aggT Try.prog 35 = some false := by kernel_rfl
attribute [simp] Try.underlying35
noncomputable def I35 : TypeInfo := (Try.prog.info? 35).getD default
@[simp] theorem i35 : Try.prog.info? 35 = some I35 := by kernel_rfl
@[simp] theorem I35_size : I35.size = 1 := by kernel_rfl
@[simp] theorem I35_bytes : I35.bytes = 8 := by kernel_rfl
@[simp] theorem I35_zero : I35.zero = some (.pointer none) := by kernel_rfl
@[simp] theorem al35 (e : FEnv) : aAlloc Try.prog (.alloc 35) e = some (.arr true 35 [.pointer none], fun id => .pointer (some ⟨id, 0, none⟩)) := by kernel_rfl
@[simp] theorem sz36 : szOf Try.prog 36 = some 8 := by kernel_rfl
@[simp] theorem ag36 : aggT Try.prog 36 = some true := by kernel_rfl
attribute [simp] Try.underlying36
noncomputable def I36 : TypeInfo := (Try.prog.info? 36).getD default
@[simp] theorem i36 : Try.prog.info? 36 = some I36 := by kernel_rfl
@[simp] theorem I36_size : I36.size = 8 := by kernel_rfl
@[simp] theorem I36_bytes : I36.bytes = 176 := by kernel_rfl
@[simp] theorem I36_zero : I36.zero = some (.agg #[.slice none 0 0, .slice none 0 0, .slice none 0 0, .slice none 0 0, .slice none 0 0, .slice none 0 0, .int .i64 0, .slice none 0 0]) := by kernel_rfl
@[simp] theorem al36 (e : FEnv) : aAlloc Try.prog (.alloc 36) e = some (.arr true 36 [.slice none 0 0, .slice none 0 0, .slice none 0 0, .slice none 0 0, .slice none 0 0, .slice none 0 0, .int .i64 0, .slice none 0 0], fun id => .pointer (some ⟨id, 0, none⟩)) := by kernel_rfl
@[simp] theorem sz37 : szOf Try.prog 37 = some 8 := by kernel_rfl
@[simp] theorem ag37 : aggT Try.prog 37 = some true := by kernel_rfl
attribute [simp] Try.underlying37
noncomputable def I37 : TypeInfo := (Try.prog.info? 37).getD default
@[simp] theorem i37 : Try.prog.info? 37 = some I37 := by kernel_rfl
@[simp] theorem I37_size : I37.size = 8 := by kernel_rfl
@[simp] theorem I37_bytes : I37.bytes = 176 := by kernel_rfl
@[simp] theorem I37_zero : I37.zero = some (.agg #[.slice none 0 0, .slice none 0 0, .slice none 0 0, .slice none 0 0, .slice none 0 0, .slice none 0 0, .int .i64 0, .slice none 0 0]) := by kernel_rfl
@[simp] theorem al37 (e : FEnv) : aAlloc Try.prog (.alloc 37) e = some (.arr true 37 [.slice none 0 0, .slice none 0 0, .slice none 0 0, .slice none 0 0, .slice none 0 0, .slice none 0 0, .int .i64 0, .slice none 0 0], fun id => .pointer (some ⟨id, 0, none⟩)) := by kernel_rfl
@[simp] theorem sz39 : szOf Try.prog 39 = some 2 := by kernel_rfl
@[simp] theorem ag39 : aggT Try.prog 39 = some true := by kernel_rfl
attribute [simp] Try.underlying39
noncomputable def I39 : TypeInfo := (Try.prog.info? 39).getD default
@[simp] theorem i39 : Try.prog.info? 39 = some I39 := by kernel_rfl
@[simp] theorem I39_size : I39.size = 2 := by kernel_rfl
@[simp] theorem I39_bytes : I39.bytes = 16 := by kernel_rfl
@[simp] theorem I39_zero : I39.zero = some (.agg #[.int .i64 0, .int .i64 0]) := by kernel_rfl
@[simp] theorem al39 (e : FEnv) : aAlloc Try.prog (.alloc 39) e = some (.arr true 39 [.int .i64 0, .int .i64 0], fun id => .pointer (some ⟨id, 0, none⟩)) := by kernel_rfl
@[simp] theorem sz40 : szOf Try.prog 40 = some 2 := by kernel_rfl
@[simp] theorem ag40 : aggT Try.prog 40 = some true := by kernel_rfl
attribute [simp] Try.underlying40
noncomputable def I40 : TypeInfo := (Try.prog.info? 40).getD default
@[simp] theorem i40 : Try.prog.info? 40 = some I40 := by kernel_rfl
@[simp] theorem I40_size : I40.size = 2 := by kernel_rfl
@[simp] theorem I40_bytes : I40.bytes = 16 := by kernel_rfl
@[simp] theorem I40_zero : I40.zero = some (.agg #[.int .i64 0, .int .i64 0]) := by kernel_rfl
@[simp] theorem al40 (e : FEnv) : aAlloc Try.prog (.alloc 40) e = some (.arr true 40 [.int .i64 0, .int .i64 0], fun id => .pointer (some ⟨id, 0, none⟩)) := by kernel_rfl
@[simp] theorem sz42 : szOf Try.prog 42 = some 1 := by kernel_rfl
@[simp] theorem ag42 : aggT Try.prog 42 = some false := by kernel_rfl
attribute [simp] Try.underlying42
noncomputable def I42 : TypeInfo := (Try.prog.info? 42).getD default
@[simp] theorem i42 : Try.prog.info? 42 = some I42 := by kernel_rfl
@[simp] theorem I42_size : I42.size = 1 := by kernel_rfl
@[simp] theorem I42_bytes : I42.bytes = 24 := by kernel_rfl
@[simp] theorem I42_zero : I42.zero = some (.slice none 0 0) := by kernel_rfl
@[simp] theorem al42 (e : FEnv) : aAlloc Try.prog (.alloc 42) e = some (.arr true 42 [.slice none 0 0], fun id => .pointer (some ⟨id, 0, none⟩)) := by kernel_rfl
@[simp] theorem sz43 : szOf Try.prog 43 = some 1 := by kernel_rfl
@[simp] theorem ag43 : aggT Try.prog 43 = some false := by kernel_rfl
attribute [simp] Try.underlying43
noncomputable def I43 : TypeInfo := (Try.prog.info? 43).getD default
@[simp] theorem i43 : Try.prog.info? 43 = some I43 := by kernel_rfl
@[simp] theorem I43_size : I43.size = 1 := by kernel_rfl
@[simp] theorem I43_bytes : I43.bytes = 8 := by kernel_rfl
@[simp] theorem I43_zero : I43.zero = some (.pointer none) := by kernel_rfl
@[simp] theorem al43 (e : FEnv) : aAlloc Try.prog (.alloc 43) e = some (.arr true 43 [.pointer none], fun id => .pointer (some ⟨id, 0, none⟩)) := by kernel_rfl
@[simp] theorem sz48 : szOf Try.prog 48 = some 1 := by kernel_rfl
@[simp] theorem ag48 : aggT Try.prog 48 = some false := by kernel_rfl
attribute [simp] Try.underlying48
noncomputable def I48 : TypeInfo := (Try.prog.info? 48).getD default
@[simp] theorem i48 : Try.prog.info? 48 = some I48 := by kernel_rfl
@[simp] theorem I48_size : I48.size = 1 := by kernel_rfl
@[simp] theorem I48_bytes : I48.bytes = 8 := by kernel_rfl
@[simp] theorem I48_zero : I48.zero = some (.int .i64 0) := by kernel_rfl
@[simp] theorem al48 (e : FEnv) : aAlloc Try.prog (.alloc 48) e = some (.arr true 48 [.int .i64 0], fun id => .pointer (some ⟨id, 0, none⟩)) := by kernel_rfl
@[simp] theorem sz57 : szOf Try.prog 57 = some 1 := by kernel_rfl
@[simp] theorem ag57 : aggT Try.prog 57 = some false := by kernel_rfl
attribute [simp] Try.underlying57
noncomputable def I57 : TypeInfo := (Try.prog.info? 57).getD default
@[simp] theorem i57 : Try.prog.info? 57 = some I57 := by kernel_rfl
@[simp] theorem I57_size : I57.size = 1 := by kernel_rfl
@[simp] theorem I57_bytes : I57.bytes = 4 := by kernel_rfl
@[simp] theorem I57_zero : I57.zero = some (.int .u32 0) := by kernel_rfl
@[simp] theorem al57 (e : FEnv) : aAlloc Try.prog (.alloc 57) e = some (.arr true 57 [.int .u32 0], fun id => .pointer (some ⟨id, 0, none⟩)) := by kernel_rfl
@[simp] theorem sz59 : szOf Try.prog 59 = some 1 := by kernel_rfl
@[simp] theorem ag59 : aggT Try.prog 59 = some false := by kernel_rfl
attribute [simp] Try.underlying59
noncomputable def I59 : TypeInfo := (Try.prog.info? 59).getD default
@[simp] theorem i59 : Try.prog.info? 59 = some I59 := by kernel_rfl
@[simp] theorem I59_size : I59.size = 1 := by kernel_rfl
@[simp] theorem I59_bytes : I59.bytes = 8 := by kernel_rfl
@[simp] theorem I59_zero : I59.zero = some (.int .u64 0) := by kernel_rfl
@[simp] theorem al59 (e : FEnv) : aAlloc Try.prog (.alloc 59) e = some (.arr true 59 [.int .u64 0], fun id => .pointer (some ⟨id, 0, none⟩)) := by kernel_rfl
@[simp] theorem sz60 : szOf Try.prog 60 = some 1 := by kernel_rfl
@[simp] theorem ag60 : aggT Try.prog 60 = some false := by kernel_rfl
attribute [simp] Try.underlying60
noncomputable def I60 : TypeInfo := (Try.prog.info? 60).getD default
@[simp] theorem i60 : Try.prog.info? 60 = some I60 := by kernel_rfl
@[simp] theorem I60_size : I60.size = 1 := by kernel_rfl
@[simp] theorem I60_bytes : I60.bytes = 8 := by kernel_rfl
@[simp] theorem I60_zero : I60.zero = some (.int .u64 0) := by kernel_rfl
@[simp] theorem al60 (e : FEnv) : aAlloc Try.prog (.alloc 60) e = some (.arr true 60 [.int .u64 0], fun id => .pointer (some ⟨id, 0, none⟩)) := by kernel_rfl
@[simp] theorem sz64 : szOf Try.prog 64 = some 1 := by kernel_rfl
@[simp] theorem ag64 : aggT Try.prog 64 = some false := by kernel_rfl
attribute [simp] Try.underlying64
noncomputable def I64 : TypeInfo := (Try.prog.info? 64).getD default
@[simp] theorem i64 : Try.prog.info? 64 = some I64 := by kernel_rfl
@[simp] theorem I64_size : I64.size = 1 := by kernel_rfl
@[simp] theorem I64_bytes : I64.bytes = 8 := by kernel_rfl
@[simp] theorem I64_zero : I64.zero = some (.pointer none) := by kernel_rfl
@[simp] theorem al64 (e : FEnv) : aAlloc Try.prog (.alloc 64) e = some (.arr true 64 [.pointer none], fun id => .pointer (some ⟨id, 0, none⟩)) := by kernel_rfl
@[simp] theorem sz67 : szOf Try.prog 67 = some 1 := by kernel_rfl
@[simp] theorem ag67 : aggT Try.prog 67 = some false := by kernel_rfl
attribute [simp] Try.underlying67
noncomputable def I67 : TypeInfo := (Try.prog.info? 67).getD default
@[simp] theorem i67 : Try.prog.info? 67 = some I67 := by kernel_rfl
@[simp] theorem I67_size : I67.size = 1 := by kernel_rfl
@[simp] theorem I67_bytes : I67.bytes = 8 := by kernel_rfl
@[simp] theorem I67_zero : I67.zero = some (.pointer none) := by kernel_rfl
@[simp] theorem al67 (e : FEnv) : aAlloc Try.prog (.alloc 67) e = some (.arr true 67 [.pointer none], fun id => .pointer (some ⟨id, 0, none⟩)) := by kernel_rfl
@[simp] theorem sz71 : szOf Try.prog 71 = some 4 := by kernel_rfl
@[simp] theorem ag71 : aggT Try.prog 71 = some true := by kernel_rfl
attribute [simp] Try.underlying71
noncomputable def I71 : TypeInfo := (Try.prog.info? 71).getD default
@[simp] theorem i71 : Try.prog.info? 71 = some I71 := by kernel_rfl
@[simp] theorem I71_size : I71.size = 4 := by kernel_rfl
@[simp] theorem I71_bytes : I71.bytes = 40 := by kernel_rfl
@[simp] theorem I71_zero : I71.zero = some (.agg #[.pointer none, .pointer none, .pointer none, .string ByteArray.empty]) := by kernel_rfl
@[simp] theorem al71 (e : FEnv) : aAlloc Try.prog (.alloc 71) e = some (.arr true 71 [.pointer none, .pointer none, .pointer none, .string ByteArray.empty], fun id => .pointer (some ⟨id, 0, none⟩)) := by kernel_rfl
@[simp] theorem sz72 : szOf Try.prog 72 = some 4 := by kernel_rfl
@[simp] theorem ag72 : aggT Try.prog 72 = some true := by kernel_rfl
attribute [simp] Try.underlying72
noncomputable def I72 : TypeInfo := (Try.prog.info? 72).getD default
@[simp] theorem i72 : Try.prog.info? 72 = some I72 := by kernel_rfl
@[simp] theorem I72_size : I72.size = 4 := by kernel_rfl
@[simp] theorem I72_bytes : I72.bytes = 40 := by kernel_rfl
@[simp] theorem I72_zero : I72.zero = some (.agg #[.pointer none, .pointer none, .pointer none, .string ByteArray.empty]) := by kernel_rfl
@[simp] theorem al72 (e : FEnv) : aAlloc Try.prog (.alloc 72) e = some (.arr true 72 [.pointer none, .pointer none, .pointer none, .string ByteArray.empty], fun id => .pointer (some ⟨id, 0, none⟩)) := by kernel_rfl
@[simp] theorem sz73 : szOf Try.prog 73 = some 0 := by kernel_rfl
@[simp] theorem ag73 : aggT Try.prog 73 = some true := by kernel_rfl
attribute [simp] Try.underlying73
noncomputable def I73 : TypeInfo := (Try.prog.info? 73).getD default
@[simp] theorem i73 : Try.prog.info? 73 = some I73 := by kernel_rfl
@[simp] theorem I73_size : I73.size = 0 := by kernel_rfl
@[simp] theorem I73_bytes : I73.bytes = 0 := by kernel_rfl
@[simp] theorem I73_zero : I73.zero = some (.agg #[]) := by kernel_rfl
@[simp] theorem al73 (e : FEnv) : aAlloc Try.prog (.alloc 73) e = some (.arr true 73 [], fun id => .pointer (some ⟨id, 0, none⟩)) := by kernel_rfl
@[simp] theorem sz74 : szOf Try.prog 74 = some 0 := by kernel_rfl
@[simp] theorem ag74 : aggT Try.prog 74 = some true := by kernel_rfl
attribute [simp] Try.underlying74
noncomputable def I74 : TypeInfo := (Try.prog.info? 74).getD default
@[simp] theorem i74 : Try.prog.info? 74 = some I74 := by kernel_rfl
@[simp] theorem I74_size : I74.size = 0 := by kernel_rfl
@[simp] theorem I74_bytes : I74.bytes = 0 := by kernel_rfl
@[simp] theorem I74_zero : I74.zero = some (.agg #[]) := by kernel_rfl
@[simp] theorem al74 (e : FEnv) : aAlloc Try.prog (.alloc 74) e = some (.arr true 74 [], fun id => .pointer (some ⟨id, 0, none⟩)) := by kernel_rfl
@[simp] theorem sz75 : szOf Try.prog 75 = some 0 := by kernel_rfl
@[simp] theorem ag75 : aggT Try.prog 75 = some true := by kernel_rfl
attribute [simp] Try.underlying75
noncomputable def I75 : TypeInfo := (Try.prog.info? 75).getD default
@[simp] theorem i75 : Try.prog.info? 75 = some I75 := by kernel_rfl
@[simp] theorem I75_size : I75.size = 0 := by kernel_rfl
@[simp] theorem I75_bytes : I75.bytes = 0 := by kernel_rfl
@[simp] theorem I75_zero : I75.zero = some (.agg #[]) := by kernel_rfl
@[simp] theorem al75 (e : FEnv) : aAlloc Try.prog (.alloc 75) e = some (.arr true 75 [], fun id => .pointer (some ⟨id, 0, none⟩)) := by kernel_rfl
@[simp] theorem sz77 : szOf Try.prog 77 = some 1 := by kernel_rfl
@[simp] theorem ag77 : aggT Try.prog 77 = some false := by kernel_rfl
attribute [simp] Try.underlying77
noncomputable def I77 : TypeInfo := (Try.prog.info? 77).getD default
@[simp] theorem i77 : Try.prog.info? 77 = some I77 := by kernel_rfl
@[simp] theorem I77_size : I77.size = 1 := by kernel_rfl
@[simp] theorem I77_bytes : I77.bytes = 1 := by kernel_rfl
@[simp] theorem I77_zero : I77.zero = some (.int .u8 0) := by kernel_rfl
@[simp] theorem al77 (e : FEnv) : aAlloc Try.prog (.alloc 77) e = some (.arr true 77 [.int .u8 0], fun id => .pointer (some ⟨id, 0, none⟩)) := by kernel_rfl
@[simp] theorem sz78 : szOf Try.prog 78 = some 1 := by kernel_rfl
@[simp] theorem ag78 : aggT Try.prog 78 = some false := by kernel_rfl
attribute [simp] Try.underlying78
noncomputable def I78 : TypeInfo := (Try.prog.info? 78).getD default
@[simp] theorem i78 : Try.prog.info? 78 = some I78 := by kernel_rfl
@[simp] theorem I78_size : I78.size = 1 := by kernel_rfl
@[simp] theorem I78_bytes : I78.bytes = 1 := by kernel_rfl
@[simp] theorem I78_zero : I78.zero = some (.int .u8 0) := by kernel_rfl
@[simp] theorem al78 (e : FEnv) : aAlloc Try.prog (.alloc 78) e = some (.arr true 78 [.int .u8 0], fun id => .pointer (some ⟨id, 0, none⟩)) := by kernel_rfl
@[simp] theorem sz80 : szOf Try.prog 80 = some 1 := by kernel_rfl
@[simp] theorem ag80 : aggT Try.prog 80 = some false := by kernel_rfl
attribute [simp] Try.underlying80
noncomputable def I80 : TypeInfo := (Try.prog.info? 80).getD default
@[simp] theorem i80 : Try.prog.info? 80 = some I80 := by kernel_rfl
@[simp] theorem I80_size : I80.size = 1 := by kernel_rfl
@[simp] theorem I80_bytes : I80.bytes = 8 := by kernel_rfl
@[simp] theorem I80_zero : I80.zero = some (.pointer none) := by kernel_rfl
@[simp] theorem al80 (e : FEnv) : aAlloc Try.prog (.alloc 80) e = some (.arr true 80 [.pointer none], fun id => .pointer (some ⟨id, 0, none⟩)) := by kernel_rfl
@[simp] theorem sz81 : szOf Try.prog 81 = some 1 := by kernel_rfl
@[simp] theorem ag81 : aggT Try.prog 81 = some false := by kernel_rfl
attribute [simp] Try.underlying81
noncomputable def I81 : TypeInfo := (Try.prog.info? 81).getD default
@[simp] theorem i81 : Try.prog.info? 81 = some I81 := by kernel_rfl
@[simp] theorem I81_size : I81.size = 1 := by kernel_rfl
@[simp] theorem I81_bytes : I81.bytes = 4 := by kernel_rfl
@[simp] theorem I81_zero : I81.zero = some (.int .i32 0) := by kernel_rfl
@[simp] theorem al81 (e : FEnv) : aAlloc Try.prog (.alloc 81) e = some (.arr true 81 [.int .i32 0], fun id => .pointer (some ⟨id, 0, none⟩)) := by kernel_rfl
@[simp] theorem sz82 : szOf Try.prog 82 = some 1 := by kernel_rfl
@[simp] theorem ag82 : aggT Try.prog 82 = some false := by kernel_rfl
attribute [simp] Try.underlying82
noncomputable def I82 : TypeInfo := (Try.prog.info? 82).getD default
@[simp] theorem i82 : Try.prog.info? 82 = some I82 := by kernel_rfl
@[simp] theorem I82_size : I82.size = 1 := by kernel_rfl
@[simp] theorem I82_bytes : I82.bytes = 4 := by kernel_rfl
@[simp] theorem I82_zero : I82.zero = some (.int .i32 0) := by kernel_rfl
@[simp] theorem al82 (e : FEnv) : aAlloc Try.prog (.alloc 82) e = some (.arr true 82 [.int .i32 0], fun id => .pointer (some ⟨id, 0, none⟩)) := by kernel_rfl
@[simp] theorem sz83 : szOf Try.prog 83 = some 11 := by kernel_rfl
@[simp] theorem ag83 : aggT Try.prog 83 = some true := by kernel_rfl
attribute [simp] Try.underlying83
noncomputable def I83 : TypeInfo := (Try.prog.info? 83).getD default
@[simp] theorem i83 : Try.prog.info? 83 = some I83 := by kernel_rfl
@[simp] theorem I83_size : I83.size = 11 := by kernel_rfl
@[simp] theorem I83_bytes : I83.bytes = 48 := by kernel_rfl
@[simp] theorem I83_zero : I83.zero = some (.agg #[.int .u64 0, .int .u64 0, .int .u32 0, .int .u8 0, .int .u8 0, .int .u8 0, .int .u8 0, .nilFunc, .pointer none, .int .i32 0, .int .i32 0]) := by kernel_rfl
@[simp] theorem al83 (e : FEnv) : aAlloc Try.prog (.alloc 83) e = some (.arr true 83 [.int .u64 0, .int .u64 0, .int .u32 0, .int .u8 0, .int .u8 0, .int .u8 0, .int .u8 0, .nilFunc, .pointer none, .int .i32 0, .int .i32 0], fun id => .pointer (some ⟨id, 0, none⟩)) := by kernel_rfl
@[simp] theorem sz84 : szOf Try.prog 84 = some 11 := by kernel_rfl
@[simp] theorem ag84 : aggT Try.prog 84 = some true := by kernel_rfl
attribute [simp] Try.underlying84
noncomputable def I84 : TypeInfo := (Try.prog.info? 84).getD default
@[simp] theorem i84 : Try.prog.info? 84 = some I84 := by kernel_rfl
@[simp] theorem I84_size : I84.size = 11 := by kernel_rfl
@[simp] theorem I84_bytes : I84.bytes = 48 := by kernel_rfl
@[simp] theorem I84_zero : I84.zero = some (.agg #[.int .u64 0, .int .u64 0, .int .u32 0, .int .u8 0, .int .u8 0, .int .u8 0, .int .u8 0, .nilFunc, .pointer none, .int .i32 0, .int .i32 0]) := by kernel_rfl
@[simp] theorem al84 (e : FEnv) : aAlloc Try.prog (.alloc 84) e = some (.arr true 84 [.int .u64 0, .int .u64 0, .int .u32 0, .int .u8 0, .int .u8 0, .int .u8 0, .int .u8 0, .nilFunc, .pointer none, .int .i32 0, .int .i32 0], fun id => .pointer (some ⟨id, 0, none⟩)) := by kernel_rfl
@[simp] theorem cl9 (a : Array Operand) : clsOf Try.prog (.call { callee := .builtin .len, args := a, argTypes := #[9] }) = .P := by kernel_rfl
@[simp] theorem cl22 (a : Array Operand) : clsOf Try.prog (.call { callee := .builtin .len, args := a, argTypes := #[22] }) = .P := by kernel_rfl
@[simp] theorem cl24 (a : Array Operand) : clsOf Try.prog (.call { callee := .builtin .len, args := a, argTypes := #[24] }) = .P := by kernel_rfl
@[simp] theorem cl26 (a : Array Operand) : clsOf Try.prog (.call { callee := .builtin .len, args := a, argTypes := #[26] }) = .P := by kernel_rfl
@[simp] theorem cl27 (a : Array Operand) : clsOf Try.prog (.call { callee := .builtin .len, args := a, argTypes := #[27] }) = .P := by kernel_rfl
@[simp] theorem cl42 (a : Array Operand) : clsOf Try.prog (.call { callee := .builtin .len, args := a, argTypes := #[42] }) = .P := by kernel_rfl
@[simp] theorem bs22 (e : FEnv) (len : Nat) (parts : Array (Nat × Operand)) (hlen : len * 1 ≤ 16777216) (hx : ixOk 0 parts.toList = true) (hn : parts.size = len) : aAlloc Try.prog (.buildSlice 22 len parts) e = (match evAll e (parts.toList.map (·.2)) with
      | some vs => if vs.all (fun v => v.cells.size == 1) && oneAll (vs.flatMap (·.cells.toList)) then some (.arr true 24 (vs.flatMap (·.cells.toList)), fun id => .slice (some ⟨id, 0, none⟩) len 1) else none
      | none => none) := al_lit (P := Try.prog) (i := I24) (by simp) i24 I24_zero rfl (by rw [I24_size]; rfl) (by rw [I24_size]; decide) (by rw [I24_size]; exact hlen) hx hn
@[simp] theorem bs24 (e : FEnv) (len : Nat) (parts : Array (Nat × Operand)) (hlen : len * 1 ≤ 16777216) (hx : ixOk 0 parts.toList = true) (hn : parts.size = len) : aAlloc Try.prog (.buildSlice 24 len parts) e = (match evAll e (parts.toList.map (·.2)) with
      | some vs => if vs.all (fun v => v.cells.size == 1) && oneAll (vs.flatMap (·.cells.toList)) then some (.arr true 3 (vs.flatMap (·.cells.toList)), fun id => .slice (some ⟨id, 0, none⟩) len 1) else none
      | none => none) := al_lit (P := Try.prog) (i := I3) (by simp) i3 I3_zero rfl (by rw [I3_size]; rfl) (by rw [I3_size]; decide) (by rw [I3_size]; exact hlen) hx hn
@[simp] theorem bs26 (e : FEnv) (len : Nat) (parts : Array (Nat × Operand)) (hlen : len * 1 ≤ 16777216) (hx : ixOk 0 parts.toList = true) (hn : parts.size = len) : aAlloc Try.prog (.buildSlice 26 len parts) e = (match evAll e (parts.toList.map (·.2)) with
      | some vs => if vs.all (fun v => v.cells.size == 1) && oneAll (vs.flatMap (·.cells.toList)) then some (.arr true 27 (vs.flatMap (·.cells.toList)), fun id => .slice (some ⟨id, 0, none⟩) len 1) else none
      | none => none) := al_lit (P := Try.prog) (i := I27) (by simp) i27 I27_zero rfl (by rw [I27_size]; rfl) (by rw [I27_size]; decide) (by rw [I27_size]; exact hlen) hx hn
@[simp] theorem bs27 (e : FEnv) (len : Nat) (parts : Array (Nat × Operand)) (hlen : len * 1 ≤ 16777216) (hx : ixOk 0 parts.toList = true) (hn : parts.size = len) : aAlloc Try.prog (.buildSlice 27 len parts) e = (match evAll e (parts.toList.map (·.2)) with
      | some vs => if vs.all (fun v => v.cells.size == 1) && oneAll (vs.flatMap (·.cells.toList)) then some (.arr true 4 (vs.flatMap (·.cells.toList)), fun id => .slice (some ⟨id, 0, none⟩) len 1) else none
      | none => none) := al_lit (P := Try.prog) (i := I4) (by simp) i4 I4_zero rfl (by rw [I4_size]; rfl) (by rw [I4_size]; decide) (by rw [I4_size]; exact hlen) hx hn
@[simp] theorem bs42 (e : FEnv) (len : Nat) (parts : Array (Nat × Operand)) (hlen : len * 2 ≤ 16777216) (hx : ixOk 0 parts.toList = true) (hn : parts.size = len) : aAlloc Try.prog (.buildSlice 42 len parts) e = (match evAll e (parts.toList.map (·.2)) with
      | some vs => if vs.all (fun v => v.cells.size == 2) && oneAll (vs.flatMap (·.cells.toList)) then some (.arr true 40 (vs.flatMap (·.cells.toList)), fun id => .slice (some ⟨id, 0, none⟩) len 2) else none
      | none => none) := al_lit (P := Try.prog) (i := I40) (by simp) i40 I40_zero rfl (by rw [I40_size]; rfl) (by rw [I40_size]; decide) (by rw [I40_size]; exact hlen) hx hn

end Go.Proofs.Ytbcgcnmnblfhmaa
