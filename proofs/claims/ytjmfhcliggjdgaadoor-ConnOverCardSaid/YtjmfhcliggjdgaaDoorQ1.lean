/- Texts of this claim, laid together by a program of its own: Shelf, Iter, Kit, Stage, Reg, MapL, Els, App3. Each says in its first row what it proves. -/
import Derived.Shelf.Small.Bits
import Derived.Shelf.Small.Wraps
import Derived.Shelf.Strconv.Itoa0
import Derived.Shelf.Sort.Plain
import Derived.Shelf.Bits.Mul64
import Derived.Shelf.Slices.Turned
import Derived.Ground.Names2Prog
import Derived.Shelf.Slices.SearchI
import Derived.Shelf.Slices.In.SortNone
import Derived.Ground.SlgnProg
import Derived.Shelf.SlicesE.Clone
import Derived.Test.YtjmfhcliggjdgaaDoorProg
import Derived.Shelf.SlGeneric
import Derived.Shelf.SlIterI.Nil
import Derived.Shelf.SlIterI.Sorted
import Derived.Ground.GgzProg
import Derived.WalkKit
import Derived.WalkSpells
import Derived.WalkLawsBesides
import Derived.Lib.Hide
import Derived.Deep.Draws
import Derived.Laws.AppendOwnNone
import Derived.Still
import Derived.Deep.Quiet
import Derived.Deep.QuietTactic
import Derived.Maps.OwnSet
import Derived.Deep.Fields
/- What the library's functions that this program calls do, as theorems of this program: the kit's own contracts, laid at its numbers; conditions as each states them. -/
namespace Go.Proofs
open Go.Shelf
def Tryd.lays128_ren : Go.Shelf.Ren := ⟨fun | 128 => 74 | n => n, fun | 51 => 124 | 3 => 3 | 4 => 4 | 46 => 57 | 5 => 5 | 9 => 9 | n => n, fun | n => n⟩
theorem Tryd.lays128 : Go.Proofs.Lays.n128 Tryd.prog Tryd.lays128_ren := {
  mixed := by kernel_rfl
  f128 := Tryd.func74.trans (congrArg some (by kernel_rfl))
  t3 := Tryd.underlying3
  a3 := Tryd.isAgg3
  z3 := Tryd.sizeOf3
  v3 := Tryd.zeroValue3
  t4 := Tryd.underlying4
  a4 := Tryd.isAgg4
  z4 := Tryd.sizeOf4
  v4 := Tryd.zeroValue4
  t5 := Tryd.underlying5
  a5 := Tryd.isAgg5
  z5 := Tryd.sizeOf5
  v5 := Tryd.zeroValue5
  t9 := Tryd.underlying9
  a9 := Tryd.isAgg9
  z9 := Tryd.sizeOf9
  v9 := Tryd.zeroValue9
  t46 := Tryd.underlying57
  a46 := Tryd.isAgg57
  z46 := Tryd.sizeOf57
  v46 := Tryd.zeroValue57
  t51 := Tryd.underlying124
  a51 := Tryd.isAgg124
  z51 := Tryd.sizeOf124
  v51 := Tryd.zeroValue124 }
theorem Tryd.bits_Len32 (x : Int) (w : World) (h0 : 0 ≤ x) (h1 : x ≤ 4294967295) :
    Calls Tryd.prog 74 #[.int .u32 x] w fun e w' => e = .returned (.int .i64 (Lib.bitLen x.toNat)) ∧ w' = w := Any.bits_Len32 Tryd.lays128 x w h0 h1
def Tryd.lays125_ren : Go.Shelf.Ren := ⟨fun | 125 => 64 | 128 => 74 | 129 => 75 | n => n, fun | 46 => 57 | 3 => 3 | 51 => 124 | 53 => 37 | 4 => 4 | 5 => 5 | 9 => 9 | n => n, fun | n => n⟩
theorem Tryd.lays125 : Go.Proofs.Lays.n125 Tryd.prog Tryd.lays125_ren := {
  mixed := by kernel_rfl
  f125 := Tryd.func64.trans (congrArg some (by kernel_rfl))
  f128 := Tryd.func74.trans (congrArg some (by kernel_rfl))
  f129 := Tryd.func75.trans (congrArg some (by kernel_rfl))
  t3 := Tryd.underlying3
  a3 := Tryd.isAgg3
  z3 := Tryd.sizeOf3
  v3 := Tryd.zeroValue3
  t4 := Tryd.underlying4
  a4 := Tryd.isAgg4
  z4 := Tryd.sizeOf4
  v4 := Tryd.zeroValue4
  t5 := Tryd.underlying5
  a5 := Tryd.isAgg5
  z5 := Tryd.sizeOf5
  v5 := Tryd.zeroValue5
  t9 := Tryd.underlying9
  a9 := Tryd.isAgg9
  z9 := Tryd.sizeOf9
  v9 := Tryd.zeroValue9
  t46 := Tryd.underlying57
  a46 := Tryd.isAgg57
  z46 := Tryd.sizeOf57
  v46 := Tryd.zeroValue57
  t51 := Tryd.underlying124
  a51 := Tryd.isAgg124
  z51 := Tryd.sizeOf124
  v51 := Tryd.zeroValue124
  t53 := Tryd.underlying37
  a53 := Tryd.isAgg37
  z53 := Tryd.sizeOf37
  v53 := Tryd.zeroValue37 }
theorem Tryd.bits_Len (x : Int) (w : World) (h0 : 0 ≤ x) (h1 : x ≤ 18446744073709551615) :
    Calls Tryd.prog 64 #[.int .u64 x] w fun e w' => e = .returned (.int .i64 (Lib.bitLen x.toNat)) ∧ w' = w := Any.bits_Len Tryd.lays125 x w h0 h1
def Tryd.lays215_ren : Go.Shelf.Ren := ⟨fun | 215 => 81 | n => n, fun | 3 => 3 | 4 => 4 | n => n, fun | n => n⟩
theorem Tryd.lays215 : Go.Proofs.Lays.n215 Tryd.prog Tryd.lays215_ren := {
  mixed := by kernel_rfl
  f215 := Tryd.func81.trans (congrArg some (by kernel_rfl))
  t3 := Tryd.underlying3
  a3 := Tryd.isAgg3
  z3 := Tryd.sizeOf3
  v3 := Tryd.zeroValue3
  t4 := Tryd.underlying4
  a4 := Tryd.isAgg4
  z4 := Tryd.sizeOf4
  v4 := Tryd.zeroValue4 }
open Go.RowKit in
theorem Tryd.cmp_isNaN_int (x : Int) (w : World) :
    Calls Tryd.prog 81 #[.int .i64 x] w fun e w' => e = .returned (.bool false) ∧ w' = w := Any.cmp_isNaN_int Tryd.lays215 x w
def Tryd.lays129_ren : Go.Shelf.Ren := ⟨fun | 129 => 75 | n => n, fun | 53 => 37 | 3 => 3 | 4 => 4 | 46 => 57 | 5 => 5 | 9 => 9 | n => n, fun | n => n⟩
theorem Tryd.lays129 : Go.Proofs.Lays.n129 Tryd.prog Tryd.lays129_ren := {
  mixed := by kernel_rfl
  f129 := Tryd.func75.trans (congrArg some (by kernel_rfl))
  t3 := Tryd.underlying3
  a3 := Tryd.isAgg3
  z3 := Tryd.sizeOf3
  v3 := Tryd.zeroValue3
  t4 := Tryd.underlying4
  a4 := Tryd.isAgg4
  z4 := Tryd.sizeOf4
  v4 := Tryd.zeroValue4
  t5 := Tryd.underlying5
  a5 := Tryd.isAgg5
  z5 := Tryd.sizeOf5
  v5 := Tryd.zeroValue5
  t9 := Tryd.underlying9
  a9 := Tryd.isAgg9
  z9 := Tryd.sizeOf9
  v9 := Tryd.zeroValue9
  t46 := Tryd.underlying57
  a46 := Tryd.isAgg57
  z46 := Tryd.sizeOf57
  v46 := Tryd.zeroValue57
  t53 := Tryd.underlying37
  a53 := Tryd.isAgg37
  z53 := Tryd.sizeOf37
  v53 := Tryd.zeroValue37 }
theorem Tryd.bits_Len64 (x : Int) (w : World) (h0 : 0 ≤ x) (h1 : x ≤ 18446744073709551615) :
    Calls Tryd.prog 75 #[.int .u64 x] w fun e w' => e = .returned (.int .i64 (Lib.bitLen x.toNat)) ∧ w' = w := Any.bits_Len64 Tryd.lays129 x w h0 h1
def Tryd.lays189_ren : Go.Shelf.Ren := ⟨fun | 189 => 58 | 125 => 64 | 257 => 63 | 128 => 74 | 129 => 75 | 294 => 65 | 295 => 66 | 296 => 67 | 297 => 68 | 298 => 69 | 299 => 70 | 216 => 71 | 300 => 72 | 301 => 73 | 328 => 76 | 329 => 77 | 330 => 78 | 331 => 79 | 332 => 80 | 215 => 81 | 343 => 82 | n => n, fun | 28 => 36 | 3 => 3 | 46 => 57 | 0 => 0 | 51 => 124 | 53 => 37 | 4 => 4 | 183 => 117 | 182 => 116 | 131 => 121 | 5 => 5 | 9 => 9 | 218 => 125 | 222 => 128 | 228 => 130 | 229 => 131 | n => n, fun | n => n⟩
theorem Tryd.lays189 : Go.Proofs.Lays.n189 Tryd.prog Tryd.lays189_ren := {
  mixed := by kernel_rfl
  f125 := Tryd.func64.trans (congrArg some (by kernel_rfl))
  f128 := Tryd.func74.trans (congrArg some (by kernel_rfl))
  f129 := Tryd.func75.trans (congrArg some (by kernel_rfl))
  f189 := Tryd.func58.trans (congrArg some (by kernel_rfl))
  f215 := Tryd.func81.trans (congrArg some (by kernel_rfl))
  f216 := Tryd.func71.trans (congrArg some (by kernel_rfl))
  f257 := Tryd.func63.trans (congrArg some (by kernel_rfl))
  f294 := Tryd.func65.trans (congrArg some (by kernel_rfl))
  f295 := Tryd.func66.trans (congrArg some (by kernel_rfl))
  f296 := Tryd.func67.trans (congrArg some (by kernel_rfl))
  f297 := Tryd.func68.trans (congrArg some (by kernel_rfl))
  f298 := Tryd.func69.trans (congrArg some (by kernel_rfl))
  f299 := Tryd.func70.trans (congrArg some (by kernel_rfl))
  f300 := Tryd.func72.trans (congrArg some (by kernel_rfl))
  f301 := Tryd.func73.trans (congrArg some (by kernel_rfl))
  f328 := Tryd.func76.trans (congrArg some (by kernel_rfl))
  f329 := Tryd.func77.trans (congrArg some (by kernel_rfl))
  f330 := Tryd.func78.trans (congrArg some (by kernel_rfl))
  f331 := Tryd.func79.trans (congrArg some (by kernel_rfl))
  f332 := Tryd.func80.trans (congrArg some (by kernel_rfl))
  f343 := Tryd.func82.trans (congrArg some (by kernel_rfl))
  t0 := Tryd.underlying0
  a0 := Tryd.isAgg0
  z0 := Tryd.sizeOf0
  v0 := Tryd.zeroValue0
  t3 := Tryd.underlying3
  a3 := Tryd.isAgg3
  z3 := Tryd.sizeOf3
  v3 := Tryd.zeroValue3
  t4 := Tryd.underlying4
  a4 := Tryd.isAgg4
  z4 := Tryd.sizeOf4
  v4 := Tryd.zeroValue4
  t5 := Tryd.underlying5
  a5 := Tryd.isAgg5
  z5 := Tryd.sizeOf5
  v5 := Tryd.zeroValue5
  t9 := Tryd.underlying9
  a9 := Tryd.isAgg9
  z9 := Tryd.sizeOf9
  v9 := Tryd.zeroValue9
  t28 := Tryd.underlying36
  a28 := Tryd.isAgg36
  z28 := Tryd.sizeOf36
  v28 := Tryd.zeroValue36
  t46 := Tryd.underlying57
  a46 := Tryd.isAgg57
  z46 := Tryd.sizeOf57
  v46 := Tryd.zeroValue57
  t51 := Tryd.underlying124
  a51 := Tryd.isAgg124
  z51 := Tryd.sizeOf124
  v51 := Tryd.zeroValue124
  t53 := Tryd.underlying37
  a53 := Tryd.isAgg37
  z53 := Tryd.sizeOf37
  v53 := Tryd.zeroValue37
  t131 := Tryd.underlying121
  a131 := Tryd.isAgg121
  z131 := Tryd.sizeOf121
  v131 := Tryd.zeroValue121
  t182 := Tryd.underlying116
  a182 := Tryd.isAgg116
  z182 := Tryd.sizeOf116
  v182 := Tryd.zeroValue116
  t183 := Tryd.underlying117
  a183 := Tryd.isAgg117
  z183 := Tryd.sizeOf117
  v183 := Tryd.zeroValue117
  t218 := Tryd.underlying125
  a218 := Tryd.isAgg125
  z218 := Tryd.sizeOf125
  v218 := Tryd.zeroValue125
  t222 := Tryd.underlying128
  a222 := Tryd.isAgg128
  z222 := Tryd.sizeOf128
  v222 := Tryd.zeroValue128
  t228 := Tryd.underlying130
  a228 := Tryd.isAgg130
  z228 := Tryd.sizeOf130
  v228 := Tryd.zeroValue130
  t229 := Tryd.underlying131
  a229 := Tryd.isAgg131
  z229 := Tryd.sizeOf131
  v229 := Tryd.zeroValue131 }
open Go.Sort Go.RowKit in
theorem Tryd.slices_Sort_int (blk off cap : Nat) (zs : List Int) (w : World) (hH : Holds (Value.int .i64) w blk off zs.toArray) (hblk : blk < w.heap.size) (hsz : zs.length < 4611686018427387904) :
    Calls Tryd.prog 58 #[.slice (some ⟨blk, off, none⟩) zs.length cap] w fun e w' =>
      e = .returned (.tuple #[]) ∧ ∃ n os, w' = grow (putRow (Value.int .i64) (Sort.ahead w n) blk off (zs.mergeSort fun x y => decide (x ≤ y)).toArray) os := Any.slices_Sort_int Tryd.lays189 blk off cap zs w hH hblk hsz
def Tryd.lays264_ren : Go.Shelf.Ren := ⟨fun | 264 => 55 | n => n, fun | 53 => 37 | 46 => 57 | n => n, fun | n => n⟩
theorem Tryd.lays264 : Go.Proofs.Lays.n264 Tryd.prog Tryd.lays264_ren := {
  mixed := by kernel_rfl
  f264 := Tryd.func55.trans (congrArg some (by kernel_rfl))
  t46 := Tryd.underlying57
  a46 := Tryd.isAgg57
  z46 := Tryd.sizeOf57
  v46 := Tryd.zeroValue57
  t53 := Tryd.underlying37
  a53 := Tryd.isAgg37
  z53 := Tryd.sizeOf37
  v53 := Tryd.zeroValue37 }
open Go.RowKit Go.Lib in
theorem Tryd.bits_Mul64 (x y : Nat) (hx : x < 18446744073709551616) (hy : y < 18446744073709551616) (w : World) :
    Calls Tryd.prog 55 #[.int .u64 x, .int .u64 y] w fun e w' => e = .returned (.tuple #[.int .u64 ((x * y / 18446744073709551616 : Nat) : Int), .int .u64 ((x * y % 18446744073709551616 : Nat) : Int)]) ∧ w' = w := Any.bits_Mul64 Tryd.lays264 x y hx hy w
def Tryd.lays108_ren : Go.Shelf.Ren := ⟨fun | 108 => 46 | n => n, fun | 28 => 36 | 3 => 3 | 0 => 0 | 4 => 4 | n => n, fun | n => n⟩
theorem Tryd.lays108 : Go.Proofs.Lays.n108 Tryd.prog Tryd.lays108_ren := {
  mixed := by kernel_rfl
  f108 := Tryd.func46.trans (congrArg some (by kernel_rfl))
  t0 := Tryd.underlying0
  a0 := Tryd.isAgg0
  z0 := Tryd.sizeOf0
  v0 := Tryd.zeroValue0
  t3 := Tryd.underlying3
  a3 := Tryd.isAgg3
  z3 := Tryd.sizeOf3
  v3 := Tryd.zeroValue3
  t4 := Tryd.underlying4
  a4 := Tryd.isAgg4
  z4 := Tryd.sizeOf4
  v4 := Tryd.zeroValue4
  t28 := Tryd.underlying36
  a28 := Tryd.isAgg36
  z28 := Tryd.sizeOf36
  v28 := Tryd.zeroValue36 }
open Go.Lib in
theorem Tryd.slices_Index_int (b off n c : Nat) (zs : List Int) (x : Int) (w : World) (hz : n ≤ zs.length) (hbig : n ≤ 9223372036854775807) (hc : ∀ j, j < zs.length → w.cell? ⟨b, off + j, none⟩ = some (.int .i64 (zs.getD j 0))) :
    Calls Tryd.prog 46 #[.slice (some ⟨b, off, none⟩) n c, .int .i64 x] w fun e w' => e = .returned (.int .i64 (Lib.idxOf (zs.take n) x)) ∧ w' = w := Any.slices_Index_int Tryd.lays108 b off n c zs x w hz hbig hc
open Go.Lib in
theorem Tryd.slices_Index_int_empty (a : Option Addr) (c : Nat) (x : Int) (w : World) :
    Calls Tryd.prog 46 #[.slice a 0 c, .int .i64 x] w fun e w' => e = .returned (.int .i64 (Lib.idxOf [] x)) ∧ w' = w := Any.slices_Index_int_empty Tryd.lays108 a c x w
def Tryd.lays107_ren : Go.Shelf.Ren := ⟨fun | 107 => 26 | 108 => 46 | n => n, fun | 28 => 36 | 3 => 3 | 4 => 4 | 0 => 0 | n => n, fun | n => n⟩
theorem Tryd.lays107 : Go.Proofs.Lays.n107 Tryd.prog Tryd.lays107_ren := {
  mixed := by kernel_rfl
  f107 := Tryd.func26.trans (congrArg some (by kernel_rfl))
  f108 := Tryd.func46.trans (congrArg some (by kernel_rfl))
  t0 := Tryd.underlying0
  a0 := Tryd.isAgg0
  z0 := Tryd.sizeOf0
  v0 := Tryd.zeroValue0
  t3 := Tryd.underlying3
  a3 := Tryd.isAgg3
  z3 := Tryd.sizeOf3
  v3 := Tryd.zeroValue3
  t4 := Tryd.underlying4
  a4 := Tryd.isAgg4
  z4 := Tryd.sizeOf4
  v4 := Tryd.zeroValue4
  t28 := Tryd.underlying36
  a28 := Tryd.isAgg36
  z28 := Tryd.sizeOf36
  v28 := Tryd.zeroValue36 }
open Go.Lib in
theorem Tryd.slices_Contains_int (b off n c : Nat) (zs : List Int) (x : Int) (w : World) (hz : n ≤ zs.length) (hbig : n ≤ 9223372036854775807) (hc : ∀ j, j < zs.length → w.cell? ⟨b, off + j, none⟩ = some (.int .i64 (zs.getD j 0))) :
    Calls Tryd.prog 26 #[.slice (some ⟨b, off, none⟩) n c, .int .i64 x] w fun e w' => e = .returned (.bool ((zs.take n).contains x)) ∧ w' = w := Any.slices_Contains_int Tryd.lays107 b off n c zs x w hz hbig hc
open Go.Lib in
theorem Tryd.slices_Contains_int_empty (a : Option Addr) (c : Nat) (x : Int) (w : World) :
    Calls Tryd.prog 26 #[.slice a 0 c, .int .i64 x] w fun e w' => e = .returned (.bool false) ∧ w' = w := Any.slices_Contains_int_empty Tryd.lays107 a c x w
def Tryd.laysNm237_ren : Go.Shelf.Ren := ⟨fun | 37 => 81 | n => n, fun | 3 => 3 | 4 => 4 | n => n, fun | n => n⟩
theorem Tryd.laysNm237 : Go.Proofs.Lays2.n37 Tryd.prog Tryd.laysNm237_ren := {
  mixed := by kernel_rfl
  f37 := Tryd.func81.trans (congrArg some (by kernel_rfl))
  t3 := Tryd.underlying3
  a3 := Tryd.isAgg3
  z3 := Tryd.sizeOf3
  v3 := Tryd.zeroValue3
  t4 := Tryd.underlying4
  a4 := Tryd.isAgg4
  z4 := Tryd.sizeOf4
  v4 := Tryd.zeroValue4 }
open Go.RowKit Go.Lib in
theorem Tryd.cmp_isNaN_int2 (x : Int) (w : World) :
    Calls Tryd.prog 81 #[.int .i64 x] w fun e w' => e = .returned (.bool false) ∧ w' = w := Any.cmp_isNaN_int2 Tryd.laysNm237 x w
def Tryd.laysNm231_ren : Go.Shelf.Ren := ⟨fun | 31 => 71 | 37 => 81 | n => n, fun | 3 => 3 | 4 => 4 | n => n, fun | n => n⟩
theorem Tryd.laysNm231 : Go.Proofs.Lays2.n31 Tryd.prog Tryd.laysNm231_ren := {
  mixed := by kernel_rfl
  f31 := Tryd.func71.trans (congrArg some (by kernel_rfl))
  f37 := Tryd.func81.trans (congrArg some (by kernel_rfl))
  t3 := Tryd.underlying3
  a3 := Tryd.isAgg3
  z3 := Tryd.sizeOf3
  v3 := Tryd.zeroValue3
  t4 := Tryd.underlying4
  a4 := Tryd.isAgg4
  z4 := Tryd.sizeOf4
  v4 := Tryd.zeroValue4 }
open Go.RowKit Go.Lib in
theorem Tryd.cmp_Less_int2 (x y : Int) (w : World) :
    Calls Tryd.prog 71 #[.int .i64 x, .int .i64 y] w fun e w' => e = .returned (.bool (decide (x < y))) ∧ w' = w := Any.cmp_Less_int2 Tryd.laysNm231 x y w
open Go.RowKit Go.Sort in
theorem Tryd.slices_Sort_int_none (p : Option Addr) (cap : Nat) (w : World) :
    Calls Tryd.prog 58 #[.slice p 0 cap] w fun e w' => e = .returned (.tuple #[]) ∧ w' = w := Any.slices_Sort_int_none Tryd.lays189 p cap w
def Tryd.laysSlE041_f60_ren : Go.Shelf.Ren := ⟨fun | 41 => 60 | n => n, fun | 22 => 70 | 23 => 37 | 4 => 4 | n => n, fun | n => n⟩
theorem Tryd.laysSlE041_f60 : Go.Proofs.SlLaysE0.n41 Tryd.prog Tryd.laysSlE041_f60_ren := {
  mixed := by kernel_rfl
  f41 := ⟨Tryd.f60.name, by decide, Tryd.func60.trans (congrArg some (by kernel_rfl))⟩
  t4 := Tryd.underlying4
  a4 := Tryd.isAgg4
  z4 := Tryd.sizeOf4
  v4 := Tryd.zeroValue4
  t22 := Tryd.underlying70
  a22 := Tryd.isAgg70
  z22 := Tryd.sizeOf70
  v22 := Tryd.zeroValue70 }
open Go.RowKit Go.Lib in
theorem Tryd.slices_Clone (i0 : TypeInfo) (z : Value) (size bytes : Nat) (hi : Tryd.prog.info? 37 = some i0) (hz0 : i0.zero = some z) (hz1 : i0.size = size) (hz2 : i0.bytes = bytes) (hzs : z.cells.size = size) (hsz : 0 < size) (z23 : ∀ w, (Go.sizeOf 37).run Tryd.prog w = .ok size w) (b off n c : Nat) (news : List Value) (w : World) (hl : news.length = n * size) (hn : n ≤ maxLen) (hbig : n * bytes ≤ 140737488355328) (hc : ∀ j u, news[j]? = some u → w.cell? ⟨b, off + j, none⟩ = some u) (h1 : ∀ u ∈ news, u.oneCell' = true) :
    Calls Tryd.prog 60 #[.slice (some ⟨b, off, none⟩) n c] w fun e w' => ∃ v', e = .returned v' ∧ w'.ownsRow w.heap.size 37 size v' n news ∧ v' ≠ .slice none 0 0 ∧ Below w.heap.size w w' := AnyE.slices_Clone Tryd.laysSlE041_f60 i0 z size bytes hi hz0 hz1 hz2 hzs hsz z23 b off n c news w hl hn hbig hc h1
open Go.RowKit Go.Lib in
theorem Tryd.slices_Clone_nil (n c : Nat) (w : World) :
    Calls Tryd.prog 60 #[.slice none n c] w fun e w' => e = .returned (.slice none 0 0) ∧ w' = w := AnyE.slices_Clone_nil Tryd.laysSlE041_f60 n c w
end Go.Proofs

/- The keys of a map, sorted: the kit's own contracts on iterators, laid at this program's numbers; conditions as each states them. -/
namespace Go.Proofs
open Go.Shelf
def Tryd.keys45_ren : Go.Shelf.Ren := ⟨fun | 7 => 45 | 10 => 59 | n => n, fun | 23 => 74 | 26 => 3 | 3 => 28 | 28 => 96 | 0 => 0 | 27 => 95 | 33 => 41 | 4 => 4 | n => n, fun | n => n⟩
theorem Tryd.keys45 : Go.Proofs.SlLaysZI.n7 Tryd.prog Tryd.keys45_ren := {
  mixed := by kernel_rfl
  f7 := ⟨Tryd.f45.name, by decide, Tryd.func45.trans (congrArg some (by kernel_rfl))⟩
  f10 := ⟨Tryd.f59.name, by decide, Tryd.func59.trans (congrArg some (by kernel_rfl))⟩
  t0 := Tryd.underlying0
  a0 := Tryd.isAgg0
  z0 := Tryd.sizeOf0
  v0 := Tryd.zeroValue0
  t4 := Tryd.underlying4
  a4 := Tryd.isAgg4
  z4 := Tryd.sizeOf4
  v4 := Tryd.zeroValue4
  t23 := Tryd.underlying74
  a23 := Tryd.isAgg74
  z23 := Tryd.sizeOf74
  v23 := Tryd.zeroValue74
  t26 := Tryd.underlying3
  a26 := Tryd.isAgg3
  z26 := Tryd.sizeOf3
  v26 := Tryd.zeroValue3
  t27 := Tryd.underlying95
  a27 := Tryd.isAgg95
  z27 := Tryd.sizeOf95
  v27 := Tryd.zeroValue95
  t28 := Tryd.underlying96
  a28 := Tryd.isAgg96
  z28 := Tryd.sizeOf96
  v28 := Tryd.zeroValue96
  t33 := Tryd.underlying41
  a33 := Tryd.isAgg41
  z33 := Tryd.sizeOf41
  v33 := Tryd.zeroValue41 }
def Tryd.sorted44_ren : Go.Shelf.Ren := ⟨fun | 6 => 44 | 8 => 57 | 9 => 58 | 11 => 62 | 13 => 64 | 12 => 63 | 23 => 74 | 24 => 75 | 14 => 65 | 15 => 66 | 16 => 67 | 17 => 68 | 18 => 69 | 19 => 70 | 20 => 71 | 21 => 72 | 22 => 73 | 25 => 76 | 26 => 77 | 27 => 78 | 28 => 79 | 29 => 80 | 30 => 81 | 31 => 82 | n => n, fun | 26 => 3 | 28 => 96 | 24 => 36 | 0 => 0 | 3 => 3 | 37 => 57 | 48 => 124 | 50 => 37 | 4 => 4 | 40 => 117 | 39 => 116 | 45 => 121 | 5 => 5 | 9 => 9 | 51 => 125 | 55 => 128 | 57 => 130 | 58 => 131 | 33 => 41 | n => n, fun | n => n⟩
theorem Tryd.sorted44 : Go.Proofs.SlLaysZI.n6 Tryd.prog Tryd.sorted44_ren := {
  mixed := by kernel_rfl
  f6 := ⟨Tryd.f44.name, by decide, Tryd.func44.trans (congrArg some (by kernel_rfl))⟩
  f8 := ⟨Tryd.f57.name, by decide, Tryd.func57.trans (congrArg some (by kernel_rfl))⟩
  f11 := ⟨Tryd.f62.name, by decide, Tryd.func62.trans (congrArg some (by kernel_rfl))⟩
  t0 := Tryd.underlying0
  a0 := Tryd.isAgg0
  z0 := Tryd.sizeOf0
  v0 := Tryd.zeroValue0
  t24 := Tryd.underlying36
  a24 := Tryd.isAgg36
  z24 := Tryd.sizeOf36
  v24 := Tryd.zeroValue36
  t26 := Tryd.underlying3
  a26 := Tryd.isAgg3
  z26 := Tryd.sizeOf3
  v26 := Tryd.zeroValue3
  t28 := Tryd.underlying96
  a28 := Tryd.isAgg96
  z28 := Tryd.sizeOf96
  v28 := Tryd.zeroValue96
  i26 := by kernel_rfl }
def Tryd.keys51_ren : Go.Shelf.Ren := ⟨fun | 7 => 51 | 10 => 61 | n => n, fun | 23 => 78 | 26 => 3 | 3 => 44 | 28 => 96 | 0 => 0 | 27 => 95 | 33 => 41 | 4 => 4 | n => n, fun | n => n⟩
theorem Tryd.keys51 : Go.Proofs.SlLaysZI.n7 Tryd.prog Tryd.keys51_ren := {
  mixed := by kernel_rfl
  f7 := ⟨Tryd.f51.name, by decide, Tryd.func51.trans (congrArg some (by kernel_rfl))⟩
  f10 := ⟨Tryd.f61.name, by decide, Tryd.func61.trans (congrArg some (by kernel_rfl))⟩
  t0 := Tryd.underlying0
  a0 := Tryd.isAgg0
  z0 := Tryd.sizeOf0
  v0 := Tryd.zeroValue0
  t4 := Tryd.underlying4
  a4 := Tryd.isAgg4
  z4 := Tryd.sizeOf4
  v4 := Tryd.zeroValue4
  t23 := Tryd.underlying78
  a23 := Tryd.isAgg78
  z23 := Tryd.sizeOf78
  v23 := Tryd.zeroValue78
  t26 := Tryd.underlying3
  a26 := Tryd.isAgg3
  z26 := Tryd.sizeOf3
  v26 := Tryd.zeroValue3
  t27 := Tryd.underlying95
  a27 := Tryd.isAgg95
  z27 := Tryd.sizeOf95
  v27 := Tryd.zeroValue95
  t28 := Tryd.underlying96
  a28 := Tryd.isAgg96
  z28 := Tryd.sizeOf96
  v28 := Tryd.zeroValue96
  t33 := Tryd.underlying41
  a33 := Tryd.isAgg41
  z33 := Tryd.sizeOf41
  v33 := Tryd.zeroValue41 }
open Go.RowKit Go.Maps Go.Sort Go.Shelf in
theorem Tryd.sorts44 (m : Nat) : AnyZI.SortsIn Tryd.prog Tryd.sorted44_ren Fence.wide m :=
  ⟨fun blk off cap ss W hH hblk hsz => callsIn_wide.2 (Tryd.slices_Sort_int blk off cap ss W hH hblk hsz), fun p cap W => callsIn_wide.2 (Tryd.slices_Sort_int_none p cap W)⟩
open Go.RowKit Go.Maps Go.Sort Go.Shelf in
theorem Tryd.maps_Keys_45 (mb : Option Nat) (W : World) : Calls Tryd.prog 45 #[.map mb] W fun e w' => e = .returned (.func (.func 59) #[] #[.pointer (some ⟨W.heap.size, 0, none⟩)]) ∧ w' = W.alloc (.cells #[.map mb] 74) :=
  callsIn_wide.1 (AnyZI.keys_in Tryd.keys45 Fence.wide 5 trivial rfl mb W)
set_option maxHeartbeats 1000000 in
open Go.RowKit Go.Maps Go.Sort Go.Shelf in
theorem Tryd.slices_Sorted_keys_45 {H : Type} (b nn : Nat) (D0 : DataW H) (R : Value → Option (DataW H × List MemPlace)) (w : World) (hown : w.ownsMap Tryd.prog 3 R b nn D0) (hmax : Maps.size D0 ≤ maxLen) (hbytes : Maps.size D0 * 8 ≤ 140737488355328) :
    Calls Tryd.prog 44 #[.func (.func 59) #[] #[.pointer (some ⟨w.heap.size, 0, none⟩)]] (w.alloc (.cells #[.map (some b)] 74)) fun e w' => ∃ (v : Value) (ss : List Int), e = .returned v ∧ ss.Perm (intKeys D0) ∧
      w'.ownsRow (w.alloc (.cells #[.map (some b)] 74)).heap.size 3 1 v ss.length ((ss.mergeSort (fun x y => decide (x ≤ y))).map (Value.int .i64)) ∧ Below (w.alloc (.cells #[.map (some b)] 74)).heap.size (w.alloc (.cells #[.map (some b)] 74)) w' := by
  have hbl := hown.lt
  have hseq : SeqGives Fence.wide 2 Tryd.prog 59 #[.pointer (some ⟨w.heap.size, 0, none⟩)] encZ (fun ss => ss.Perm (intKeys D0)) (Maps.size D0) (w.alloc (.cells #[.map (some b)] 74)) :=
    AnyZI.keys_gives (ρ := Tryd.keys45_ren) { Tryd.keys45 with } Fence.wide _ trivial rfl (by omega) w.heap.size b nn D0 _ (by simp) (by simp) (by
      obtain ⟨es, clock, hb, Ft, hs, hD⟩ := hown
      exact ⟨es, clock, (Below.heap_alloc _ _ b hbl).trans hb, Ft, hs, hD⟩)
  refine (callsIn_wide.1 (AnyZI.sorted_in Tryd.sorted44 Fence.wide 5 trivial trivial trivial trivial rfl (by omega) (Tryd.sorts44 _) (enters_of Tryd.func58 (by kernel_rfl) rfl) 59 #[.pointer (some ⟨w.heap.size, 0, none⟩)] trivial (enters_of Tryd.func59 (by kernel_rfl) rfl) _ _ hmax hbytes _ hseq)).mono ?_
  rintro e w' ⟨v, ss, h1, h2, h3, _, h5⟩
  exact ⟨v, ss, h1, h2, h3, h5⟩
open Go.RowKit Go.Maps Go.Sort Go.Shelf in
theorem Tryd.maps_Keys_51 (mb : Option Nat) (W : World) : Calls Tryd.prog 51 #[.map mb] W fun e w' => e = .returned (.func (.func 61) #[] #[.pointer (some ⟨W.heap.size, 0, none⟩)]) ∧ w' = W.alloc (.cells #[.map mb] 78) :=
  callsIn_wide.1 (AnyZI.keys_in Tryd.keys51 Fence.wide 5 trivial rfl mb W)
set_option maxHeartbeats 1000000 in
open Go.RowKit Go.Maps Go.Sort Go.Shelf in
theorem Tryd.slices_Sorted_keys_51 {H : Type} (b nn : Nat) (D0 : DataW H) (R : Value → Option (DataW H × List MemPlace)) (w : World) (hown : w.ownsMap Tryd.prog 3 R b nn D0) (hmax : Maps.size D0 ≤ maxLen) (hbytes : Maps.size D0 * 8 ≤ 140737488355328) :
    Calls Tryd.prog 44 #[.func (.func 61) #[] #[.pointer (some ⟨w.heap.size, 0, none⟩)]] (w.alloc (.cells #[.map (some b)] 78)) fun e w' => ∃ (v : Value) (ss : List Int), e = .returned v ∧ ss.Perm (intKeys D0) ∧
      w'.ownsRow (w.alloc (.cells #[.map (some b)] 78)).heap.size 3 1 v ss.length ((ss.mergeSort (fun x y => decide (x ≤ y))).map (Value.int .i64)) ∧ Below (w.alloc (.cells #[.map (some b)] 78)).heap.size (w.alloc (.cells #[.map (some b)] 78)) w' := by
  have hbl := hown.lt
  have hseq : SeqGives Fence.wide 2 Tryd.prog 61 #[.pointer (some ⟨w.heap.size, 0, none⟩)] encZ (fun ss => ss.Perm (intKeys D0)) (Maps.size D0) (w.alloc (.cells #[.map (some b)] 78)) :=
    AnyZI.keys_gives (ρ := Tryd.keys51_ren) { Tryd.keys51 with } Fence.wide _ trivial rfl (by omega) w.heap.size b nn D0 _ (by simp) (by simp) (by
      obtain ⟨es, clock, hb, Ft, hs, hD⟩ := hown
      exact ⟨es, clock, (Below.heap_alloc _ _ b hbl).trans hb, Ft, hs, hD⟩)
  refine (callsIn_wide.1 (AnyZI.sorted_in Tryd.sorted44 Fence.wide 5 trivial trivial trivial trivial rfl (by omega) (Tryd.sorts44 _) (enters_of Tryd.func58 (by kernel_rfl) rfl) 61 #[.pointer (some ⟨w.heap.size, 0, none⟩)] trivial (enters_of Tryd.func61 (by kernel_rfl) rfl) _ _ hmax hbytes _ hseq)).mono ?_
  rintro e w' ⟨v, ss, h1, h2, h3, _, h5⟩
  exact ⟨v, ss, h1, h2, h3, h5⟩
end Go.Proofs

/- Words for what a call leaves of memory, and small facts on cells and rows; no condition. -/
namespace Go.Proofs.YtjmfhcliggjdgaaDoor
open Go.RowKit

/-- Of the blocks that were there only those of S may have turned; the streams are as they were; no block has gone. -/
structure Mod (S : Nat → Prop) (w w' : World) : Prop where
  os : w'.os = w.os
  tape : w'.tape = w.tape
  output : w'.output = w.output
  size : w.heap.size ≤ w'.heap.size
  block : ∀ k, k < w.heap.size → ¬ S k → w'.heap[k]? = w.heap[k]?

theorem Mod.refl (S : Nat → Prop) (w : World) : Mod S w w := ⟨rfl, rfl, rfl, Nat.le_refl _, fun _ _ _ => rfl⟩
theorem Mod.trans {S : Nat → Prop} {a b c : World} (h : Mod S a b) (k : Mod S b c) : Mod S a c :=
  ⟨k.os.trans h.os, k.tape.trans h.tape, k.output.trans h.output, Nat.le_trans h.size k.size, fun i hi hs => (k.block i (Nat.lt_of_lt_of_le hi h.size) hs).trans (h.block i hi hs)⟩
theorem Mod.mono {S S' : Nat → Prop} {w w' : World} (h : Mod S w w') (hS : ∀ k, k < w.heap.size → S k → S' k) : Mod S' w w' :=
  ⟨h.os, h.tape, h.output, h.size, fun k hk hn => h.block k hk fun hs => hn (hS k hk hs)⟩
/-- .. of blocks that were not there. -/
theorem Mod.new {S : Nat → Prop} {w a b : World} (h : Mod (fun _ => False) w a) (k : Mod S a b) (hS : ∀ i, S i → w.heap.size ≤ i) : Mod (fun _ => False) w b :=
  ⟨k.os.trans h.os, k.tape.trans h.tape, k.output.trans h.output, Nat.le_trans h.size k.size, fun i hi hs => (k.block i (Nat.lt_of_lt_of_le hi h.size) (fun e => by have := hS i e; omega)).trans (h.block i hi hs)⟩
theorem Mod.of_below {S : Nat → Prop} {w w' : World} (h : Below w.heap.size w w') : Mod S w w' := ⟨h.os, h.tape, h.output, h.size, fun k hk _ => h.block k hk⟩
theorem Mod.below {S : Nat → Prop} {B : Nat} {w w' : World} (h : Mod S w w') (hB : B ≤ w.heap.size) (hS : ∀ k, S k → B ≤ k) : Below B w w' :=
  ⟨h.os, h.tape, h.output, h.size, fun k hk => h.block k (by omega) fun hs => by have := hS k hs; omega⟩
/-- Behind a call that leaves 'Mod': what the world was below B it is. -/
theorem below_mod {S : Nat → Prop} {B : Nat} {a w w' : World} (h : Below B a w) (hB : B ≤ w.heap.size) (hm : Mod S w w') (hS : ∀ k, S k → B ≤ k) : Below B a w' := h.trans (hm.below hB hS)
theorem Mod.alloc {S : Nat → Prop} {a w : World} (h : Mod S a w) (o : Obj) : Mod S a (w.alloc o) :=
  h.trans ⟨rfl, rfl, rfl, by simp, fun k hk _ => Below.heap_alloc _ _ _ hk⟩
theorem Mod.setCell {S : Nat → Prop} {a w : World} (h : Mod S a w) {p : Addr} (hp : S p.block ∨ a.heap.size ≤ p.block) (u : Value) : Mod S a (w.setCell p u) :=
  ⟨h.os, h.tape, h.output, Nat.le_trans h.size (by simp [World.setCell]), fun k hk hs => (Below.heap_setCell _ _ _ _ (fun e => by subst e; rcases hp with hp | hp; exact hs hp; omega)).trans (h.block k hk hs)⟩
theorem Mod.drewN {S : Nat → Prop} {a w : World} (h : Mod S a w) (n : Nat) : Mod S a (w.drewN n) := ⟨h.os, h.tape, h.output, h.size, h.block⟩
theorem Mod.drew {S : Nat → Prop} {a w : World} (h : Mod S a w) : Mod S a w.drew := ⟨h.os, h.tape, h.output, h.size, h.block⟩
theorem Mod.cell {S : Nat → Prop} {w w' : World} (h : Mod S w w') {p : Addr} {v : Value} (hc : w.cell? p = some v) (hp : ¬ S p.block) : w'.cell? p = some v :=
  (World.cell?_of_block (w := w) (h.block p.block (World.block_lt_of_cell? w p hc) hp)).trans hc
theorem Mod.frozen {S : Nat → Prop} {w w' : World} (h : Mod S w w') {p : Addr} (hl : p.block < w.heap.size) (hp : ¬ S p.block) : w'.frozen? p = w.frozen? p :=
  World.frozen?_of_block (w := w) (h.block p.block hl hp)
theorem Mod.heap {S : Nat → Prop} {w w' : World} (h : Mod S w w') {b : Nat} {o : Obj} (hc : w.heap[b]? = some o) (hp : ¬ S b) : w'.heap[b]? = some o :=
  (h.block b (Array.getElem?_eq_some_iff.1 hc).1 hp).trans hc

/-- A block that is known whole: cells 'cs' of type t, none frozen. -/
abbrev Blk (w : World) (b : Nat) (cs : Array Value) (t : TypeId) : Prop := w.heap[b]? = some (.cells cs t (0, 0))
theorem Blk.cell {w : World} {b : Nat} {cs : Array Value} {t : TypeId} (h : Blk w b cs t) (j : Nat) : w.cell? ⟨b, j, none⟩ = cs[j]? := by
  simp [World.cell?, h]
theorem Blk.frozen {w : World} {b : Nat} {cs : Array Value} {t : TypeId} (h : Blk w b cs t) (j : Nat) : w.frozen? ⟨b, j, none⟩ = false := by
  simp [World.frozen?, h]
theorem Blk.lt {w : World} {b : Nat} {cs : Array Value} {t : TypeId} (h : Blk w b cs t) : b < w.heap.size := (Array.getElem?_eq_some_iff.1 h).1
theorem Blk.set {w : World} {b : Nat} {cs : Array Value} {t : TypeId} (h : Blk w b cs t) (j : Nat) (v : Value) : Blk (w.setCell ⟨b, j, none⟩ v) b (cs.setIfInBounds j v) t := by
  simp [Blk, World.setCell, Array.getElem?_modify, h]
theorem Blk.setOther {w : World} {b : Nat} {cs : Array Value} {t : TypeId} (h : Blk w b cs t) {p : Addr} (hp : p.block ≠ b) (v : Value) : Blk (w.setCell p v) b cs t := by
  rw [Blk, Below.heap_setCell _ _ _ _ (Ne.symm hp)]; exact h
theorem Blk.alloc {w : World} {b : Nat} {cs : Array Value} {t : TypeId} (h : Blk w b cs t) (o : Obj) : Blk (w.alloc o) b cs t := by
  rw [Blk, Below.heap_alloc _ _ _ h.lt]; exact h
theorem Blk.new (w : World) (cs : Array Value) (t : TypeId) : Blk (w.alloc (.cells cs t)) w.heap.size cs t := heap_alloc_new w _
theorem Blk.drewN {w : World} {b : Nat} {cs : Array Value} {t : TypeId} (h : Blk w b cs t) (n : Nat) : Blk (w.drewN n) b cs t := h
theorem Blk.drew {w : World} {b : Nat} {cs : Array Value} {t : TypeId} (h : Blk w b cs t) : Blk w.drew b cs t := h
theorem Blk.mod {S : Nat → Prop} {w w' : World} {b : Nat} {cs : Array Value} {t : TypeId} (h : Blk w b cs t) (hm : Mod S w w') (hp : ¬ S b) : Blk w' b cs t := hm.heap h hp
theorem Blk.below {B : Nat} {w w' : World} {b : Nat} {cs : Array Value} {t : TypeId} (h : Blk w b cs t) (hm : Below B w w') (hp : b < B) : Blk w' b cs t := (hm.block b hp).trans h

/-- WHAT THE WALK IS TOLD OF A SLICE OF INTEGERS THAT CAME IN: it is nil; or it leads to a row of 'cap' cells, the numbers 'zs' (the first 'len' are its elements, the rest its spare room), each fitting its kind. -/
def IsRow (k : IntKind) (w : World) (a : Option Addr) (len cap : Nat) (zs : List Int) : Prop :=
  (a = none ∧ len = 0 ∧ cap = 0 ∧ zs = []) ∨
  ∃ x, a = some x ∧ len ≤ cap ∧ cap ≤ maxLen ∧ zs.length = cap ∧ (∀ i, i < zs.length → w.cell? (x.add i) = some (.int k (zs.getD i 0))) ∧ ∀ n ∈ zs, (Lit.int k n).wf = true

/-- A slice of n elements of 'size' cells each: nil, or its address and the cells behind it. -/
def Sl (w : World) (v : Value) (size n : Nat) (xs : List Value) : Prop :=
  (v = .slice none 0 0 ∧ n = 0 ∧ xs = []) ∨ ∃ x c, v = .slice (some x) n c ∧ xs.length = n * size ∧ ∀ j u, xs[j]? = some u → w.cell? (x.add j) = some u
theorem Sl.nil (w : World) (size : Nat) : Sl w (.slice none 0 0) size 0 [] := .inl ⟨rfl, rfl, rfl⟩
theorem Addr.add_block (x : Addr) (j : Nat) : (x.add j).block = x.block := by unfold Addr.add; split <;> rfl
theorem Sl.len {w : World} {v : Value} {size n : Nat} {xs : List Value} (h : Sl w v size n xs) : xs.length = n * size := by
  rcases h with ⟨_, rfl, rfl⟩ | ⟨_, _, _, h, _⟩
  · simp
  · exact h
theorem Sl.keep {w w' : World} {v : Value} {size n : Nat} {xs : List Value} (h : Sl w v size n xs) (hm : ∀ p u, w.cell? p = some u → (∀ x n c, v = .slice (some x) n c → p.block = x.block) → w'.cell? p = some u) : Sl w' v size n xs := by
  rcases h with ⟨h1, h2, h3⟩ | ⟨x, c, rfl, h1, h2⟩
  · exact .inl ⟨h1, h2, h3⟩
  · refine .inr ⟨x, c, rfl, h1, fun j u hj => hm _ u (h2 j u hj) fun y n d hy => ?_⟩
    simp only [Value.slice.injEq, Option.some.injEq] at hy
    rw [Addr.add_block, hy.1]
theorem Sl.mod {S : Nat → Prop} {w w' : World} {v : Value} {size n : Nat} {xs : List Value} (h : Sl w v size n xs) (hm : Mod S w w') (hS : ∀ x n c, v = .slice (some x) n c → ¬ S x.block) : Sl w' v size n xs := by
  rcases h with ⟨h1, h2, h3⟩ | ⟨x, c, rfl, h1, h2⟩
  · exact .inl ⟨h1, h2, h3⟩
  · exact .inr ⟨x, c, rfl, h1, fun j u hj => hm.cell (h2 j u hj) (by rw [Addr.add_block]; exact hS x _ c rfl)⟩
theorem Sl.alloc {w : World} {v : Value} {size n : Nat} {xs : List Value} (h : Sl w v size n xs) (o : Obj) : Sl (w.alloc o) v size n xs :=
  h.mod (S := fun _ => False) ((Mod.refl _ _).alloc o) fun _ _ _ _ h => h
theorem Sl.drewN {w : World} {v : Value} {size n : Nat} {xs : List Value} (h : Sl w v size n xs) (k : Nat) : Sl (w.drewN k) v size n xs := h
theorem Sl.below {B : Nat} {w w' : World} {v : Value} {size n : Nat} {xs : List Value} (h : Sl w v size n xs) (hb : Below B w w') (hB : w.heap.size ≤ B) : Sl w' v size n xs := by
  refine h.keep fun p u hp _ => ?_
  have := World.block_lt_of_cell? w p hp
  rw [hb.cell (by omega)]; exact hp
theorem _root_.Go.World.ownsRow.sl {w : World} {base : Nat} {e : TypeId} {size : Nat} {v : Value} {n : Nat} {xs : List Value} (h : w.ownsRow base e size v n xs) : Sl w v size n xs := by
  rcases h.2 with ⟨h1, h2⟩ | ⟨g, cap, cur, rfl, hg, hh, h1, h2, h3, h4⟩
  · refine .inl ⟨h1, h2, ?_⟩
    have := h.1
    rw [h2, Nat.zero_mul] at this
    exact List.length_eq_zero_iff.1 this
  · refine .inr ⟨_, _, rfl, h.1, fun j u hj => ?_⟩
    have hlt := (List.getElem?_eq_some_iff.1 hj).1
    have e := h.cellAt j (by rw [← h.1]; exact hlt)
    rw [hj] at e
    unfold Addr.add
    split
    · rename_i h0; subst h0; exact e
    · simpa using e

theorem _root_.Go.World.ownsRow.blk {w : World} {base : Nat} {e : TypeId} {size : Nat} {v : Value} {n : Nat} {xs : List Value} (h : w.ownsRow base e size v n xs) : ∀ x m c, v = .slice (some x) m c → base ≤ x.block ∧ x.block < w.heap.size := by
  intro x m c hv
  exact h.lt x.block (by rw [hv]; rfl)
theorem IsRow.sl {k : IntKind} {w : World} {a : Option Addr} {len cap : Nat} {zs : List Int} (h : IsRow k w a len cap zs) : Sl w (.slice a len cap) 1 len ((zs.take len).map (Value.int k)) := by
  rcases h with ⟨rfl, rfl, rfl, rfl⟩ | ⟨x, rfl, hl, _, hz, hc, _⟩
  · exact .inl ⟨rfl, rfl, rfl⟩
  · refine .inr ⟨x, cap, rfl, by simp; omega, fun j u hj => ?_⟩
    have hlt := (List.getElem?_eq_some_iff.1 hj).1
    simp at hlt
    rw [hc j (by omega), List.getD_eq_getElem?_getD, List.getElem?_eq_getElem (by omega)]
    rw [List.getElem?_map, List.getElem?_take, if_pos (by omega), List.getElem?_eq_getElem (by omega)] at hj
    exact hj

section
variable {P : Program} {w : World}
/-- 'append(v, sv...)' on a slice of the call's own, whatever is appended. -/
theorem wpList_append_sl {ops : Array Oper} {rest : List Oper} {o : Oper} {a : Act} {Q : Exit → Act → World → Prop} (hgd : o.guard = none) (s x : Operand) (t : TypeId)
    (ho : o.op = .call { callee := .builtin .append, args := #[s, x], argTypes := #[t, t] })
    (base : Nat) (e : TypeId) (i : TypeInfo) (z : Value) (size bytes : Nat) (ht : P.underlying t = some (.slice e)) (hi : P.info? e = some i) (hz : i.zero = some z)
    (hsize : i.size = size) (hby : i.bytes = bytes) (hzs : z.cells.size = size) (hsz : 0 < size)
    (v : Value) (n : Nat) (xs : List Value) (hs : a.eval s = v) (hown : w.ownsRow base e size v n xs)
    (sv : Value) (m : Nat) (news : List Value) (hx : a.eval x = sv) (hnews : Sl w sv size m news) (h1 : ∀ u ∈ news, u.oneCell' = true)
    (hbytes : (n + m) * bytes ≤ 140737488355328) (hb0 : 0 < bytes) (hbase : base ≤ w.heap.size)
    (h : ∀ v' w', w'.ownsRow base e size v' (n + m) (xs ++ news) → w.grownBy w' v.ownBlock → wpList P ops Q rest (a.put o.dst v') w') : wpList P ops Q (o :: rest) a w := by
  rcases hnews with ⟨rfl, rfl, rfl⟩ | ⟨ad, c, rfl, hl, hc⟩
  · exact wpList_append_own_none hgd s x t ho base e i size ht hi v n xs hs hown hx (h v w (by simpa using hown) ⟨rfl, rfl, rfl, Nat.le_refl _, fun _ _ _ => rfl⟩)
  · have h63 : n + m ≤ maxLen := by
      have : n + m ≤ (n + m) * bytes := Nat.le_mul_of_pos_right _ hb0
      unfold maxLen; omega
    exact wpList_append_own w hgd s x t ho base e i z size bytes ht hi hz hsize hby hzs hsz v n xs hs hown ad m c news hx hl hc h1 h63 hbytes hbase fun v' w' h2 h3 _ => h v' w' h2 h3
end
theorem Mod.grown {S : Nat → Prop} {a w w' : World} {row : Option Nat} (h : Mod S a w) (hg : w.grownBy w' row) (hr : ∀ k, row = some k → S k ∨ a.heap.size ≤ k) : Mod S a w' :=
  ⟨hg.os.trans h.os, hg.tape.trans h.tape, hg.output.trans h.output, Nat.le_trans h.size hg.size, fun k hk hs => by
    have hne : some k ≠ row := fun e => by
      rcases hr k e.symm with h1 | h1
      · exact hs h1
      · omega
    rw [hg.block k (Nat.lt_of_lt_of_le hk h.size) hne]
    exact h.block k hk hs⟩

/-- Integers' range. -/
theorem i64_bd {n : Int} (h : (Lit.int .i64 n).wf = true) : -9223372036854775808 ≤ n ∧ n ≤ 9223372036854775807 := by
  simpa [Lit.wf, IntKind.min, IntKind.max, IntKind.signed, IntKind.bits] using h
end Go.Proofs.YtjmfhcliggjdgaaDoor

/- A region that draws its order, walked once in the order of the text, though some of its operations write: for every region that passes a test on its edges (stagesB); no other condition. -/
namespace Go.Proofs.YtjmfhcliggjdgaaDoor
open Go

section
variable {P : Program} {ops : Array Oper} {md : Region.Mode} {S : World → Prop}

/-- A class of worlds that draws leave, inside S. -/
def Good (S C : World → Prop) : Prop := (∀ w n, C w → C (w.drewN n)) ∧ ∀ w, C w → S w

/-- An operation that may turn the world: it yields v and leaves a world of D. -/
def effUpon (P : Program) (v : Value) (D : World → Prop) : Result Next → Prop
  | .ok (.value u) w' => u = v ∧ D w'
  | .ok .skip w' => v = undef ∧ D w'
  | .ok (.enter f args) w' => Calls P f args w' (fun e w'' => e = .returned v ∧ D w'')
  | _ => False

/-- Of a world of X the operation yields v, and leaves it but for draws. -/
def sq (P : Program) (o : Oper) (a : Act) (X : World → Prop) (v : Value) : Prop := ∀ w, X w → o.quietAt P a (fun w' => ∃ n, w' = w.drewN n) w v

def opAny (P : Program) (ops : Array Oper) (S : World → Prop) (o : Oper) (K : (World → Prop) → Act → Prop) (C : World → Prop) (a : Act) : Prop :=
  if Region.wanted o (yielded ops a.tmps) then ∃ v, sq P o a S v ∧ K C (a.put o.dst v) else K C (a.put o.dst undef)
def opPin (P : Program) (ops : Array Oper) (o : Oper) (K : (World → Prop) → Act → Prop) (C : World → Prop) (a : Act) : Prop :=
  if Region.wanted o (yielded ops a.tmps) then ∃ v, sq P o a C v ∧ K C (a.put o.dst v) else K C (a.put o.dst undef)
def opEff (P : Program) (ops : Array Oper) (S : World → Prop) (o : Oper) (K : (World → Prop) → Act → Prop) (C : World → Prop) (a : Act) : Prop :=
  if Region.wanted o (yielded ops a.tmps) then ∃ v D, (∀ w, C w → effUpon P v D ((execOp a.eval o).run P w)) ∧ Good S D ∧ K D (a.put o.dst v) else K C (a.put o.dst undef)

/-- The worlds that have all that one of C has, and maybe new memory. -/
def Cl (C : World → Prop) : World → Prop := fun w' => ∃ w, C w ∧ w.heap.size ≤ w'.heap.size ∧ ∀ k, k < w.heap.size → w'.heap[k]? = w.heap[k]?
theorem Cl.refl {C : World → Prop} {w : World} (h : C w) : Cl C w := ⟨w, h, Nat.le_refl _, fun _ _ => rfl⟩
theorem Cl.trans {C D : World → Prop} (h : ∀ w, D w → Cl C w) {w : World} (k : Cl D w) : Cl C w := by
  obtain ⟨w1, h1, h2, h3⟩ := k
  obtain ⟨w0, g1, g2, g3⟩ := h w1 h1
  exact ⟨w0, g1, Nat.le_trans g2 h2, fun j hj => (h3 j (Nat.lt_of_lt_of_le hj g2)).trans (g3 j hj)⟩
def opHold (P : Program) (ops : Array Oper) (o : Oper) (K : (World → Prop) → Act → Prop) (C : World → Prop) (a : Act) : Prop :=
  if Region.wanted o (yielded ops a.tmps) then ∃ v, sq P o a (Cl C) v ∧ K C (a.put o.dst v) else K C (a.put o.dst undef)
def opNew (P : Program) (ops : Array Oper) (S : World → Prop) (o : Oper) (K : (World → Prop) → Act → Prop) (C : World → Prop) (a : Act) : Prop :=
  if Region.wanted o (yielded ops a.tmps) then ∃ v D, (∀ w, C w → effUpon P v D ((execOp a.eval o).run P w)) ∧ (Good S D ∧ ∀ w, D w → Cl C w) ∧ K D (a.put o.dst v) else K C (a.put o.dst undef)
/-- May an operation of kind i be passed by one of kind j? -/
def cmpB (a b : Nat) : Bool := a == 0 || b == 0 || ((a == 1 || a == 3) && (b == 1 || b == 3)) || (a == 3 && b == 4)
theorem cmpB_spec {a b : Nat} (h : cmpB a b = true) : a = 0 ∨ b = 0 ∨ ((a = 1 ∨ a = 3) ∧ (b = 1 ∨ b = 3)) ∨ (a = 3 ∧ b = 4) := by
  simp [cmpB] at h
  rcases h with ((h | h) | h) | h
  · exact .inl h
  · exact .inr (.inl h)
  · exact .inr (.inr (.inl h))
  · exact .inr (.inr (.inr h))

/-- The kinds: 3: quiet in the worlds of its own stage and in those that have new memory besides; 4: it makes new memory, and turns none that is there; 0: quiet in every world of S; 1: quiet in the worlds of its own stage; 2: it writes. -/
def opW (P : Program) (ops : Array Oper) (S : World → Prop) (k : Nat) (o : Oper) (K : (World → Prop) → Act → Prop) (C : World → Prop) (a : Act) : Prop :=
  match k with
  | 0 => opAny P ops S o K C a
  | 1 => opPin P ops o K C a
  | 3 => opHold P ops o K C a
  | 4 => opNew P ops S o K C a
  | _ => opEff P ops S o K C a

def wpStage (P : Program) (ops : Array Oper) (S : World → Prop) (Q : (World → Prop) → Act → Prop) : List Nat → List Oper → (World → Prop) → Act → Prop
  | _, [], C, a => Q C a
  | ks, o :: rest, C, a => opW P ops S (ks.headD 0) o (wpStage P ops S Q ks.tail rest) C a

theorem stage_any {Q : (World → Prop) → Act → Prop} {ks : List Nat} {o : Oper} {rest : List Oper} {C : World → Prop} {a : Act}
    (h : ∀ K : (World → Prop) → Act → Prop, (∀ C a, wpStage P ops S Q ks rest C a → K C a) → opAny P ops S o K C a) : wpStage P ops S Q (0 :: ks) (o :: rest) C a := h _ fun _ _ h => h
theorem stage_pin {Q : (World → Prop) → Act → Prop} {ks : List Nat} {o : Oper} {rest : List Oper} {C : World → Prop} {a : Act}
    (h : ∀ K : (World → Prop) → Act → Prop, (∀ C a, wpStage P ops S Q ks rest C a → K C a) → opPin P ops o K C a) : wpStage P ops S Q (1 :: ks) (o :: rest) C a := h _ fun _ _ h => h
theorem stage_eff {Q : (World → Prop) → Act → Prop} {ks : List Nat} {o : Oper} {rest : List Oper} {C : World → Prop} {a : Act}
    (h : ∀ K : (World → Prop) → Act → Prop, (∀ C a, wpStage P ops S Q ks rest C a → K C a) → opEff P ops S o K C a) : wpStage P ops S Q (2 :: ks) (o :: rest) C a := h _ fun _ _ h => h
theorem stage_hold {Q : (World → Prop) → Act → Prop} {ks : List Nat} {o : Oper} {rest : List Oper} {C : World → Prop} {a : Act}
    (h : ∀ K : (World → Prop) → Act → Prop, (∀ C a, wpStage P ops S Q ks rest C a → K C a) → opHold P ops o K C a) : wpStage P ops S Q (3 :: ks) (o :: rest) C a := h _ fun _ _ h => h
theorem stage_new {Q : (World → Prop) → Act → Prop} {ks : List Nat} {o : Oper} {rest : List Oper} {C : World → Prop} {a : Act}
    (h : ∀ K : (World → Prop) → Act → Prop, (∀ C a, wpStage P ops S Q ks rest C a → K C a) → opNew P ops S o K C a) : wpStage P ops S Q (4 :: ks) (o :: rest) C a := h _ fun _ _ h => h
theorem stage_nil {Q : (World → Prop) → Act → Prop} {ks : List Nat} {C : World → Prop} {a : Act} (h : Q C a) : wpStage P ops S Q ks [] C a := by cases ks <;> exact h

/-! ### The test on the edges -/
def descs (md : Region.Mode) (ops : Array Oper) (i : Nat) : List Nat :=
  (List.range ops.size).foldl (fun acc j => if (match ops[j]? with | some o => o.after.any (fun e => Region.binds md e && acc.contains e.on) | none => false) then j :: acc else acc) [i]
def stagesB (md : Region.Mode) (ops : Array Oper) (ks : List Nat) : Bool :=
  Region.lexB md ops && (List.range ops.size).all fun i => ks.getD i 0 == 0 ||
    let d := descs md ops i
    (List.range ops.size).all fun j => j ≤ i || cmpB (ks.getD i 0) (ks.getD j 0) || d.contains j

/-- What has come up has come up behind all that it waits for. -/
def DC (md : Region.Mode) (ops : Array Oper) (listed : Array Bool) : Prop :=
  ∀ (j : Nat) (o : Oper), ops[j]? = some o → listed[j]? = some true → ∀ e ∈ o.after, Region.binds md e = true → listed.getD e.on false = true

theorem getD_true {listed : Array Bool} {j : Nat} (h : listed.getD j true = false) : listed[j]? = some false := by
  rcases Nat.lt_or_ge j listed.size with h' | h'
  · simp [h'] at h ⊢; exact h
  · simp [Array.getElem?_eq_none h'] at h

theorem unl_fold {listed : Array Bool} (hd : DC md ops listed) : ∀ (l acc : List Nat), (∀ j ∈ acc, listed[j]? ≠ some true) →
    ∀ j ∈ l.foldl (fun acc j => if (match ops[j]? with | some o => o.after.any (fun e => Region.binds md e && acc.contains e.on) | none => false) then j :: acc else acc) acc, listed[j]? ≠ some true
  | [], _, h => h
  | k :: l, acc, h => by
    rw [List.foldl_cons]
    refine unl_fold hd l _ ?_
    by_cases hk : (match ops[k]? with | some o => o.after.any (fun e => Region.binds md e && acc.contains e.on) | none => false) = true
    · rw [if_pos hk]
      intro j hj
      rcases List.mem_cons.1 hj with rfl | hj
      · intro hl
        cases ho : ops[j]? with
        | none => simp [ho] at hk
        | some o =>
          simp only [ho] at hk
          obtain ⟨e, he, hb⟩ := Array.any_eq_true'.1 hk
          simp only [Bool.and_eq_true, List.contains_iff_mem] at hb
          have h1 := hd j o ho hl e he hb.1
          refine h e.on hb.2 ?_
          rcases Nat.lt_or_ge e.on listed.size with h' | h'
          · simp [h'] at h1 ⊢; exact h1
          · simp [Array.getElem?_eq_none h'] at h1
      · exact h j hj
    · rw [if_neg hk]
      exact h

theorem dc_set {listed : Array Bool} (hd : DC md ops listed) {j : Nat} (hj : j ∈ Region.ready md ops listed) : DC md ops (listed.setIfInBounds j true) := by
  intro k o hk hl e he hb
  by_cases hjk : j = k
  · subst hjk
    obtain ⟨_, o', ho', hall⟩ := mem_ready.1 hj
    rw [hk] at ho'
    cases ho'
    exact getD_set_true (hall e he hb)
  · rw [Array.getElem?_setIfInBounds_ne hjk] at hl
    exact getD_set_true (hd k o hk hl e he hb)

theorem not_desc {listed : Array Bool} (hd : DC md ops listed) {i j : Nat} (hi : listed.getD i true = false) (hj : j ∈ Region.ready md ops listed) (hne : j ≠ i) : j ∉ descs md ops i := by
  intro hin
  have h1 := getD_true (mem_ready.1 hj).1
  have hlt : j < listed.size := (Array.getElem?_eq_some_iff.1 h1).1
  have hi' : (listed.setIfInBounds j true)[i]? ≠ some true := by
    rw [Array.getElem?_setIfInBounds_ne hne, getD_true hi]; simp
  exact unl_fold (dc_set hd hj) (List.range ops.size) [i] (fun k hk => by rw [List.mem_singleton.1 hk]; exact hi') j hin (by simp [hlt])

/-! ### Every order -/
def qOpW (P : Program) (ops : Array Oper) (S : World → Prop) (ks : List Nat) (i : Nat) (K : (World → Prop) → Act → Prop) (C : World → Prop) (a : Act) : Prop :=
  match ops[i]? with
  | none => K C a
  | some o => opW P ops S (ks.getD i 0) o K C a

def wpAnyW (P : Program) (md : Region.Mode) (ops : Array Oper) (S : World → Prop) (ks : List Nat) (Q : (World → Prop) → Act → Prop) : Nat → Array Bool → (World → Prop) → Act → Prop
  | 0, listed, C, a => Region.ready md ops listed = [] ∧ Q C a
  | fuel + 1, listed, C, a =>
    (Region.ready md ops listed = [] → Q C a) ∧
    ∀ i ∈ Region.ready md ops listed, qOpW P ops S ks i (wpAnyW P md ops S ks Q fuel (listed.setIfInBounds i true)) C a

theorem opW_mono {k : Nat} {o : Oper} {K K' : (World → Prop) → Act → Prop} {C : World → Prop} {a : Act} (hC : Good S C) (h : ∀ C a, Good S C → K C a → K' C a) (hh : opW P ops S k o K C a) : opW P ops S k o K' C a := by
  unfold opW at *
  split at hh
  · unfold opAny at *
    split at hh
    · rename_i hw; rw [if_pos hw]; obtain ⟨v, h1, h2⟩ := hh; exact ⟨v, h1, h _ _ hC h2⟩
    · rename_i hw; rw [if_neg hw]; exact h _ _ hC hh
  · unfold opPin at *
    split at hh
    · rename_i hw; rw [if_pos hw]; obtain ⟨v, h1, h2⟩ := hh; exact ⟨v, h1, h _ _ hC h2⟩
    · rename_i hw; rw [if_neg hw]; exact h _ _ hC hh
  · unfold opHold at *
    split at hh
    · rename_i hw; rw [if_pos hw]; obtain ⟨v, h1, h2⟩ := hh; exact ⟨v, h1, h _ _ hC h2⟩
    · rename_i hw; rw [if_neg hw]; exact h _ _ hC hh
  · unfold opNew at *
    split at hh
    · rename_i hw; rw [if_pos hw]; obtain ⟨v, D, h1, hD, h2⟩ := hh; exact ⟨v, D, h1, hD, h _ _ hD.1 h2⟩
    · rename_i hw; rw [if_neg hw]; exact h _ _ hC hh
  · unfold opEff at *
    split at hh
    · rename_i hw; rw [if_pos hw]; obtain ⟨v, D, h1, hD, h2⟩ := hh; exact ⟨v, D, h1, hD, h _ _ hD h2⟩
    · rename_i hw; rw [if_neg hw]; exact h _ _ hC hh

theorem qOpW_mono {ks : List Nat} {i : Nat} {K K' : (World → Prop) → Act → Prop} {C : World → Prop} {a : Act} (hC : Good S C) (h : ∀ C a, Good S C → K C a → K' C a) (hh : qOpW P ops S ks i K C a) : qOpW P ops S ks i K' C a := by
  unfold qOpW at *
  split
  · exact h _ _ hC (by simpa [*] using hh)
  · rename_i o ho; simp only [ho] at hh; exact opW_mono hC h hh

theorem wp_of_sq {o : Oper} {a : Act} {X C : World → Prop} {v : Value} {K : Act → Prop} {K' : Act → World → Prop} {Q' : Exit → Act → World → Prop} {w : World}
    (hw : X w) (hC : C w) (hd : ∀ w n, C w → C (w.drewN n)) (h : ∀ a w', C w' → K a → K' a w') (h1 : sq P o a X v) (h2 : K (a.put o.dst v)) : o.wp P a w K' Q' := by
  have h3 := h1 w hw
  unfold Oper.quietAt at h3
  unfold Oper.wp
  generalize (execOp a.eval o).run P w = r at *
  cases r with
  | ok n w' =>
    cases n <;> simp only [Oper.quietUpon] at h3 <;> simp only [Oper.upon]
    case value u =>
      obtain ⟨e1, e2⟩ := h3
      rw [e1, e2]
      exact h _ _ hC h2
    case skip =>
      obtain ⟨e1, e2⟩ := h3
      rw [e1, ← e2]
      exact h _ _ hC h2
    case enter f args =>
      obtain ⟨e1, hc⟩ := h3
      rw [e1]
      exact hc.mono fun e w'' ⟨he, n, hn⟩ => by subst he; subst hn; exact h _ _ (hd _ _ hC) h2
  | halt x w' => simp only [Oper.quietUpon] at h3

theorem wp_of_eff {o : Oper} {a : Act} {D : World → Prop} {v : Value} {K : Act → Prop} {K' : Act → World → Prop} {Q' : Exit → Act → World → Prop} {w : World}
    (h : ∀ a w', D w' → K a → K' a w') (h3 : effUpon P v D ((execOp a.eval o).run P w)) (h2 : K (a.put o.dst v)) : o.wp P a w K' Q' := by
  unfold Oper.wp
  generalize (execOp a.eval o).run P w = r at *
  cases r with
  | ok n w' =>
    cases n <;> simp only [effUpon] at h3 <;> simp only [Oper.upon]
    case value u =>
      obtain ⟨e1, e2⟩ := h3
      rw [e1]
      exact h _ _ e2 h2
    case skip =>
      obtain ⟨e1, e2⟩ := h3
      rw [← e1]
      exact h _ _ e2 h2
    case enter f args =>
      exact h3.mono fun e w'' ⟨he, hn⟩ => by subst he; exact h _ _ hn h2
  | halt x w' => simp only [effUpon] at h3

theorem wpOp_of_W {ks : List Nat} {i : Nat} {K : (World → Prop) → Act → Prop} {K' : Act → World → Prop} {Q' : Exit → Act → World → Prop} {C : World → Prop} {a : Act} {w : World}
    (hC : Good S C) (hw : C w) (h : ∀ C a w', Good S C → C w' → K C a → K' a w') (hh : qOpW P ops S ks i K C a) : wpOp P ops Q' i K' a w := by
  unfold qOpW at hh
  unfold wpOp
  split
  · rename_i ho; simp only [ho] at hh; exact h _ _ _ hC hw hh
  · rename_i o ho
    simp only [ho] at hh
    unfold opW at hh
    split at hh
    · unfold opAny at hh
      split at hh
      · rename_i hwt; rw [if_pos hwt]; obtain ⟨v, h1, h2⟩ := hh
        exact .inl (wp_of_sq (X := S) (C := C) (K := K C) (hC.2 _ hw) hw hC.1 (fun a w' hw' hk => h _ _ _ hC hw' hk) h1 h2)
      · rename_i hwt; rw [if_neg hwt]; exact h _ _ _ hC hw hh
    · unfold opPin at hh
      split at hh
      · rename_i hwt; rw [if_pos hwt]; obtain ⟨v, h1, h2⟩ := hh
        exact .inl (wp_of_sq (X := C) (C := C) (K := K C) hw hw hC.1 (fun a w' hw' hk => h _ _ _ hC hw' hk) h1 h2)
      · rename_i hwt; rw [if_neg hwt]; exact h _ _ _ hC hw hh
    · unfold opHold at hh
      split at hh
      · rename_i hwt; rw [if_pos hwt]; obtain ⟨v, h1, h2⟩ := hh
        exact .inl (wp_of_sq (X := Cl C) (C := C) (K := K C) (Cl.refl hw) hw hC.1 (fun a w' hw' hk => h _ _ _ hC hw' hk) h1 h2)
      · rename_i hwt; rw [if_neg hwt]; exact h _ _ _ hC hw hh
    · unfold opNew at hh
      split at hh
      · rename_i hwt; rw [if_pos hwt]; obtain ⟨v, D, h1, hD, h2⟩ := hh
        exact .inl (wp_of_eff (K := K D) (fun a w' hw' hk => h _ _ _ hD.1 hw' hk) (h1 w hw) h2)
      · rename_i hwt; rw [if_neg hwt]; exact h _ _ _ hC hw hh
    · unfold opEff at hh
      split at hh
      · rename_i hwt; rw [if_pos hwt]; obtain ⟨v, D, h1, hD, h2⟩ := hh
        exact .inl (wp_of_eff (K := K D) (fun a w' hw' hk => h _ _ _ hD hw' hk) (h1 w hw) h2)
      · rename_i hwt; rw [if_neg hwt]; exact h _ _ _ hC hw hh

theorem wpAny_of_W {ks : List Nat} {Q : (World → Prop) → Act → Prop} {Q' : Exit → Act → World → Prop} (hQ : ∀ C a w, C w → Q C a → Q' .normal a w) : ∀ (fuel : Nat) (listed : Array Bool) (C : World → Prop) (a : Act) (w : World), Good S C → C w →
    wpAnyW P md ops S ks Q fuel listed C a → wpAny P md ops Q' fuel listed a w
  | 0, _, _, _, _, _, hw, h => ⟨h.1, hQ _ _ _ hw h.2⟩
  | fuel + 1, _, _, _, _, hC, hw, h => ⟨fun h0 => hQ _ _ _ hw (h.1 h0), fun i hi => wpOp_of_W hC hw (fun C' a' w' hC' hw' => wpAny_of_W hQ fuel _ C' a' w' hC' hw') (h.2 i hi)⟩

/-- What operation 'o' of kind k does from class C: it yields v and leaves class D. -/
def Res (P : Program) (ops : Array Oper) (S : World → Prop) (k : Nat) (o : Oper) (v : Value) (C D : World → Prop) (a : Act) : Prop :=
  (Region.wanted o (yielded ops a.tmps) = false ∧ v = undef ∧ D = C) ∨
  (Region.wanted o (yielded ops a.tmps) = true ∧
    ((k = 0 ∧ sq P o a S v ∧ D = C) ∨ (k = 1 ∧ sq P o a C v ∧ D = C) ∨ (k = 3 ∧ sq P o a (Cl C) v ∧ D = C) ∨ (k ≠ 0 ∧ k ≠ 1 ∧ k ≠ 3 ∧ (∀ w, C w → effUpon P v D ((execOp a.eval o).run P w)) ∧ Good S D ∧ (k = 4 → ∀ w, D w → Cl C w))))

theorem Res.opW {k : Nat} {o : Oper} {v : Value} {C D : World → Prop} {a : Act} (hr : Res P ops S k o v C D a) {K : (World → Prop) → Act → Prop} (h : K D (a.put o.dst v)) : opW P ops S k o K C a := by
  unfold Go.Proofs.YtjmfhcliggjdgaaDoor.opW
  rcases hr with ⟨hw, rfl, rfl⟩ | ⟨hw, h1⟩
  · split <;> simp only [opAny, opPin, opEff, opHold, opNew, hw, Bool.false_eq_true, if_false] <;> exact h
  · rcases h1 with ⟨rfl, h1, rfl⟩ | ⟨rfl, h1, rfl⟩ | ⟨rfl, h1, rfl⟩ | ⟨k0, k1, k3, h1, hD, h4⟩
    · simp only [opAny, hw, if_true]; exact ⟨v, h1, h⟩
    · simp only [opPin, hw, if_true]; exact ⟨v, h1, h⟩
    · simp only [opHold, hw, if_true]; exact ⟨v, h1, h⟩
    · split
      · exact absurd rfl k0
      · exact absurd rfl k1
      · exact absurd rfl k3
      · simp only [opNew, hw, if_true]; exact ⟨v, D, h1, ⟨hD, h4 rfl⟩, h⟩
      · simp only [opEff, hw, if_true]; exact ⟨v, D, h1, hD, h⟩

theorem res_of_opW {k : Nat} {o : Oper} {C : World → Prop} {a : Act} {K : (World → Prop) → Act → Prop} (h : opW P ops S k o K C a) : ∃ v D, Res P ops S k o v C D a ∧ K D (a.put o.dst v) := by
  unfold opW at h
  split at h
  · unfold opAny at h
    split at h
    · rename_i hw; obtain ⟨v, h1, h2⟩ := h; exact ⟨v, C, .inr ⟨hw, .inl ⟨rfl, h1, rfl⟩⟩, h2⟩
    · rename_i hw; exact ⟨undef, C, .inl ⟨by simpa using hw, rfl, rfl⟩, h⟩
  · unfold opPin at h
    split at h
    · rename_i hw; obtain ⟨v, h1, h2⟩ := h; exact ⟨v, C, .inr ⟨hw, .inr (.inl ⟨rfl, h1, rfl⟩)⟩, h2⟩
    · rename_i hw; exact ⟨undef, C, .inl ⟨by simpa using hw, rfl, rfl⟩, h⟩
  · unfold opHold at h
    split at h
    · rename_i hw; obtain ⟨v, h1, h2⟩ := h; exact ⟨v, C, .inr ⟨hw, .inr (.inr (.inl ⟨rfl, h1, rfl⟩))⟩, h2⟩
    · rename_i hw; exact ⟨undef, C, .inl ⟨by simpa using hw, rfl, rfl⟩, h⟩
  · unfold opNew at h
    split at h
    · rename_i hw; obtain ⟨v, D, h1, hD, h2⟩ := h; exact ⟨v, D, .inr ⟨hw, .inr (.inr (.inr ⟨by decide, by decide, by decide, h1, hD.1, fun _ => hD.2⟩))⟩, h2⟩
    · rename_i hw; exact ⟨undef, C, .inl ⟨by simpa using hw, rfl, rfl⟩, h⟩
  · rename_i h0 h1' h3' h4'
    unfold opEff at h
    split at h
    · rename_i hw; obtain ⟨v, D, h1, hD, h2⟩ := h; exact ⟨v, D, .inr ⟨hw, .inr (.inr (.inr ⟨h0, h1', h3', h1, hD, fun e => (h4' e).elim⟩))⟩, h2⟩
    · rename_i hw; exact ⟨undef, C, .inl ⟨by simpa using hw, rfl, rfl⟩, h⟩

theorem Res.of_same {k : Nat} {o : Oper} {v : Value} {C D : World → Prop} {a a' : Act} (hr : Res P ops S k o v C D a) (he : execOp a'.eval o = execOp a.eval o)
    (hw : Region.wanted o (yielded ops a'.tmps) = Region.wanted o (yielded ops a.tmps)) : Res P ops S k o v C D a' := by
  unfold Res sq Oper.quietAt at *
  rw [he, hw]
  exact hr

/-- A quiet operation leaves the class. -/
theorem Res.same {k : Nat} {o : Oper} {v : Value} {C D : World → Prop} {a : Act} (hr : Res P ops S k o v C D a) (hk : k = 0 ∨ k = 1 ∨ k = 3) : D = C := by
  rcases hr with ⟨_, _, e⟩ | ⟨_, ⟨_, _, e⟩ | ⟨_, _, e⟩ | ⟨_, _, e⟩ | ⟨k0, k1, k3, _, _⟩⟩
  · exact e
  · exact e
  · exact e
  · exact e
  · rcases hk with h | h | h
    · exact absurd h k0
    · exact absurd h k1
    · exact absurd h k3
/-- Two operations, apart from one another, whose kinds do not clash: they may be exchanged. -/
theorem opW_put {ki kj : Nat} {oi oj : Oper} {v : Value} (hk : cmpB ki kj = true) (hap : oi.apart ops oj = true)
    (hsi : ∀ cs b, oi.op ≠ .select cs b) (hsj : ∀ cs b, oj.op ≠ .select cs b) {K : (World → Prop) → Act → Prop} {C D : World → Prop} {a : Act}
    (hy : Res P ops S ki oi v C D a) (h : opW P ops S kj oj K D (a.put oi.dst v)) :
    opW P ops S kj oj (fun C' a' => ∃ D', Res P ops S ki oi v C' D' a' ∧ K D' (a'.put oi.dst v)) C a := by
  have hk := cmpB_spec hk
  obtain ⟨h1, h2, h3⟩ := Oper.apart_spec hap
  have keep : ∀ (a : Act) C D, Res P ops S ki oi v C D a → ∀ u, Res P ops S ki oi v C D (a.put oj.dst u) := fun a C D hy u =>
    hy.of_same (execOp_put oi hsi a oj.dst u h3) (wanted_put oi a oj.dst u h3)
  obtain ⟨u, D', hj, hK⟩ := res_of_opW h
  have hj' : Res P ops S kj oj u D D' a := hj.of_same (execOp_put oj hsj a oi.dst v h1).symm (wanted_put oj a oi.dst v h1).symm
  have hK' : K D' ((a.put oj.dst u).put oi.dst v) := by rw [← Act.put_comm a v u h2]; exact hK
  -- oi's class: C to D; oj's, behind it: D to D'
  by_cases hD : D = C
  · subst hD
    refine hj'.opW ⟨D', ?_, hK'⟩
    -- oi behind oj
    rcases hy with ⟨hw, hv, _⟩ | ⟨hw, hy⟩
    · exact keep _ _ _ (.inl ⟨hw, hv, rfl⟩) u
    · rcases hy with ⟨hk0, hs, _⟩ | ⟨hk1, hs, _⟩ | ⟨hk3, hs, _⟩ | ⟨k0, k1, k3, hs, hg, h4⟩
      · exact keep _ _ _ (.inr ⟨hw, .inl ⟨hk0, hs, rfl⟩⟩) u
      · -- pinned: oj must leave the class
        have hDD : D' = D := hj'.same (by omega)
        subst hDD
        exact keep _ _ _ (.inr ⟨hw, .inr (.inl ⟨hk1, hs, rfl⟩)⟩) u
      · -- held: oj may make new memory
        have hcl : ∀ w, D' w → Cl D w := by
          rcases (show kj = 4 ∨ (kj = 0 ∨ kj = 1 ∨ kj = 3) by omega) with e4 | hq
          · rcases hj' with ⟨_, _, e⟩ | ⟨_, ⟨_, _, e⟩ | ⟨_, _, e⟩ | ⟨_, _, e⟩ | ⟨_, _, _, _, _, h4⟩⟩
            · exact fun w hw => Cl.refl (e ▸ hw)
            · exact fun w hw => Cl.refl (e ▸ hw)
            · exact fun w hw => Cl.refl (e ▸ hw)
            · exact fun w hw => Cl.refl (e ▸ hw)
            · exact h4 e4
          · have e := hj'.same hq
            exact fun w hw => Cl.refl (e ▸ hw)
        exact keep _ _ _ (.inr ⟨hw, .inr (.inr (.inl ⟨hk3, fun w hw => hs w (Cl.trans hcl hw), rfl⟩))⟩) u
      · have hDD : D' = D := hj'.same (by omega)
        subst hDD
        exact keep _ _ _ (.inr ⟨hw, .inr (.inr (.inr ⟨k0, k1, k3, hs, hg, h4⟩))⟩) u
  · -- oi writes: oj is quiet in all of S
    have hki : ki ≠ 0 ∧ ki ≠ 1 ∧ ki ≠ 3 := by
      rcases hy with ⟨_, _, e⟩ | ⟨_, ⟨_, _, e⟩ | ⟨_, _, e⟩ | ⟨_, _, e⟩ | ⟨k0, k1, k3, _, _⟩⟩
      · exact absurd e hD
      · exact absurd e hD
      · exact absurd e hD
      · exact absurd e hD
      · exact ⟨k0, k1, k3⟩
    have hkj : kj = 0 := by omega
    have hj2 : Res P ops S kj oj u C C a ∧ D' = D := by
      rcases hj' with ⟨hw, hv, e⟩ | ⟨hw, ⟨hk0, hs, e⟩ | ⟨hk1, _, _⟩ | ⟨hk3, _, _⟩ | ⟨k0, _, _⟩⟩
      · exact ⟨.inl ⟨hw, hv, rfl⟩, e⟩
      · exact ⟨.inr ⟨hw, .inl ⟨hk0, hs, rfl⟩⟩, e⟩
      · omega
      · omega
      · exact absurd hkj k0
    obtain ⟨hj2, rfl⟩ := hj2
    exact hj2.opW ⟨D', keep _ _ _ hy u, hK'⟩

/-- An operation that may come up now may be taken first. -/
theorem wpAnyW_first {ks : List Nat} {Q : (World → Prop) → Act → Prop} {i : Nat} {oi : Oper} {v : Value} (hi : ops[i]? = some oi) (hsel : ∀ (j : Nat) (o : Oper) cs b, ops[j]? = some o → o.op ≠ .select cs b) :
    ∀ (fuel : Nat) (listed : Array Bool) (C D : World → Prop) (a : Act), Good S C → DC md ops listed →
      (∀ j oj, ops[j]? = some oj → j ≠ i → listed.getD j true = false → (∀ e ∈ oj.after, Region.binds md e = true → e.on ≠ i) → oi.apart ops oj = true) →
      (∀ j, j ≠ i → listed.getD j true = false → j ∉ descs md ops i → cmpB (ks.getD i 0) (ks.getD j 0) = true) →
      i ∈ Region.ready md ops listed → Res P ops S (ks.getD i 0) oi v C D a →
      wpAnyW P md ops S ks Q fuel (listed.setIfInBounds i true) D (a.put oi.dst v) → wpAnyW P md ops S ks Q (fuel + 1) listed C a := by
  intro fuel
  induction fuel with
  | zero =>
    intro listed C D a _ _ _ _ hr hy H
    refine ⟨fun h => (by rw [h] at hr; cases hr), fun j hj => ?_⟩
    by_cases hji : j = i
    · subst hji; unfold qOpW; simp only [hi]; exact hy.opW H
    · have := ready_mono hj hji
      rw [H.1] at this
      cases this
  | succ fuel ih =>
    intro listed C D a hC hd hfree hcomp hr hy H
    refine ⟨fun h => (by rw [h] at hr; cases hr), fun j hj => ?_⟩
    by_cases hji : j = i
    · subst hji; unfold qOpW; simp only [hi]; exact hy.opW H
    · have h1 := H.2 j (ready_mono hj hji)
      obtain ⟨hjun, oj, hoj, hall⟩ := mem_ready.1 hj
      have hnot : ∀ e ∈ oj.after, Region.binds md e = true → e.on ≠ i := fun e he hb heq => by
        have h1 := hall e he hb
        have h0 := (mem_ready.1 hr).1
        rw [heq] at h1
        rcases Nat.lt_or_ge i listed.size with h' | h'
        · simp [h'] at h0 h1; rw [h0] at h1; cases h1
        · simp [Array.getElem?_eq_none h'] at h1
      have hiun := (mem_ready.1 hr).1
      unfold qOpW at h1
      simp only [hoj] at h1
      have h2 := opW_put (hcomp j hji hjun (not_desc hd hiun hj hji)) (hfree j oj hoj hji hjun hnot) (fun cs b => hsel i oi cs b hi) (fun cs b => hsel j oj cs b hoj) hy h1
      have hfree' : ∀ k ok, ops[k]? = some ok → k ≠ i → (listed.setIfInBounds j true).getD k true = false →
          (∀ e ∈ ok.after, Region.binds md e = true → e.on ≠ i) → oi.apart ops ok = true := fun k ok hk hki hun hno => by
        refine hfree k ok hk hki ?_ hno
        by_cases hjk : j = k
        · subst hjk; exact hjun
        · rw [getD_set_ne true hjk] at hun; exact hun
      have hcomp' : ∀ k, k ≠ i → (listed.setIfInBounds j true).getD k true = false → k ∉ descs md ops i → cmpB (ks.getD i 0) (ks.getD k 0) = true := fun k hki hun hno => by
        refine hcomp k hki ?_ hno
        by_cases hjk : j = k
        · subst hjk; exact hjun
        · rw [getD_set_ne true hjk] at hun; exact hun
      unfold qOpW
      simp only [hoj]
      refine opW_mono hC (fun C' a' hC' h3 => ?_) h2
      obtain ⟨D', h3, h4⟩ := h3
      refine ih (listed.setIfInBounds j true) C' D' a' hC' (dc_set hd hj) hfree' hcomp' (ready_mono hr (Ne.symm hji)) h3 ?_
      rw [Array.setIfInBounds_comm _ _ hji]
      exact h4

theorem res_good {k : Nat} {o : Oper} {v : Value} {C D : World → Prop} {a : Act} (hC : Good S C) (h : Res P ops S k o v C D a) : Good S D := by
  rcases h with ⟨_, _, e⟩ | ⟨_, ⟨_, _, e⟩ | ⟨_, _, e⟩ | ⟨_, _, e⟩ | ⟨_, _, _, _, e, _⟩⟩
  · exact e ▸ hC
  · exact e ▸ hC
  · exact e ▸ hC
  · exact e ▸ hC
  · exact e

theorem wpAnyW_lex {ks : List Nat} {Q : (World → Prop) → Act → Prop} (hs : Region.noSelect ops = true)
    (hcomp : ∀ i j, i < j → cmpB (ks.getD i 0) (ks.getD j 0) = true ∨ j ∈ descs md ops i ∨ ops.size ≤ j) : ∀ (l : List Oper) (k : Nat) (listed : Array Bool) (C : World → Prop) (a : Act), Good S C → DC md ops listed → (∀ j, j < k → listed.getD j true = true) → listed.size = ops.size → (∀ j, l[j]? = ops[k + j]?) →
    Region.lexFrom md ops l.length k listed = true → wpStage P ops S Q (ks.drop k) l C a → wpAnyW P md ops S ks Q l.length listed C a
  | [], k, _, _, _, _, _, _, _, _, hB, h => ⟨by simpa [Region.lexFrom] using hB, by cases hk : ks.drop k <;> rw [hk] at h <;> exact h⟩
  | o :: l, k, listed, C, a, hC, hd, hlow, hsz, hl, hB, h => by
    have h0 : ops[k]? = some o := by simpa using (hl 0).symm
    simp only [List.length_cons, Region.lexFrom, Bool.and_eq_true] at hB
    obtain ⟨⟨hr, hf⟩, hB'⟩ := hB
    have hr' : k ∈ Region.ready md ops listed := by simpa using hr
    have e1 : (ks.drop k).headD 0 = ks.getD k 0 := by
      rw [List.headD_eq_head?_getD, List.head?_drop, List.getD_eq_getElem?_getD]
    have e2 : (ks.drop k).tail = ks.drop (k + 1) := by rw [List.tail_drop]
    have h' : opW P ops S (ks.getD k 0) o (wpStage P ops S Q (ks.drop (k + 1)) l) C a := by
      rw [← e1, ← e2]; exact h
    obtain ⟨v, D, hy, hK⟩ := res_of_opW h'
    refine wpAnyW_first h0 (Region.noSelect_spec hs) l.length listed C D a hC hd (Region.free_spec h0 hf) (fun j hji hun hno => ?_) hr' hy
      (wpAnyW_lex hs hcomp l (k + 1) _ _ _ (res_good hC hy) (dc_set hd hr') (fun j hj => ?_) (by simp [hsz]) (fun j => by have := hl (j + 1); simpa [Nat.add_assoc, Nat.add_comm 1 j] using this) hB' hK)
    · have hkj : k < j := by
        rcases Nat.lt_trichotomy j k with h1 | h1 | h1
        · rw [hlow j h1] at hun; cases hun
        · exact absurd h1 hji
        · exact h1
      rcases hcomp k j hkj with h1 | h1 | h1
      · exact h1
      · exact absurd h1 hno
      · have := (Array.getElem?_eq_some_iff.1 (getD_true hun)).1
        omega
    · by_cases hjk : k = j
      · subst hjk
        have hlt : k < listed.size := by rw [hsz]; exact (Array.getElem?_eq_some_iff.1 h0).1
        simp [hlt]
      · rw [getD_set_ne true hjk]; exact hlow j (by omega)

theorem stagesB_spec {ks : List Nat} (h : stagesB md ops ks = true) : Region.noSelect ops = true ∧ Region.lexFrom md ops ops.size 0 (Array.replicate ops.size false) = true ∧
    ∀ i j, i < j → cmpB (ks.getD i 0) (ks.getD j 0) = true ∨ j ∈ descs md ops i ∨ ops.size ≤ j := by
  simp only [stagesB, Region.lexB, Bool.and_eq_true] at h
  refine ⟨h.1.1, h.1.2, fun i j hij => ?_⟩
  by_cases hj : j < ops.size
  · have h1 := List.all_eq_true.1 h.2 i (List.mem_range.2 (by omega))
    rw [Bool.or_eq_true] at h1
    rcases h1 with h1 | h1
    · exact .inl (by simp [cmpB]; simp at h1; exact .inl (.inl (.inl h1)))
    · have h2 := List.all_eq_true.1 h1 j (List.mem_range.2 hj)
      simp only [Bool.or_eq_true, decide_eq_true_eq, List.contains_iff_mem] at h2
      rcases h2 with (h2 | h2) | h2
      · omega
      · exact .inl h2
      · exact .inr (.inl h2)
  · exact .inr (.inr (by omega))

/-- A region that draws its order: ONE WALK IN THE ORDER OF THE TEXT, each operation of the kind that 'ks' says. -/
theorem wp_region_stages {id : Nat} {Q' : Exit → Act → World → Prop} {a : Act} {w : World} {l : List Oper} (ks : List Nat) (S C : World → Prop) (hm : P.follows .mixedOrders = true) (hB : stagesB .any l.toArray ks = true)
    (hG : Good S C) (hw : C w.drew)
    (h : wpStage P l.toArray S (fun C a' => ∀ w', C w' → Q' .normal a' w') ks l C a) : (Code.region id l.toArray true).wp P Q' a w := by
  obtain ⟨h1, h2, h3⟩ := stagesB_spec hB
  refine wp_region_any hm (wpAny_of_W (S := S) (ks := ks) (Q := fun C a' => ∀ w', C w' → Q' .normal a' w') (fun C a w hw h => h w hw) _ _ C _ _ hG hw ?_)
  have h4 := wpAnyW_lex (S := S) (md := .any) (ks := ks) (Q := fun C a' => ∀ w', C w' → Q' .normal a' w') h1 h3 l 0 (Array.replicate l.toArray.size false) C a hG (fun j o ho hl => by
    have hlt := (Array.getElem?_eq_some_iff.1 ho).1
    rw [Array.getElem?_replicate, if_pos hlt] at hl; cases hl) (fun j hj => by omega) (by simp) (by simp) (by simpa using h2) (by simpa using h)
  simpa using h4

theorem good_drewN {W : World} (h : ∀ n, S (W.drewN n)) : Good S (fun w' => ∃ n, w' = W.drewN n) :=
  ⟨fun w n ⟨m, hm⟩ => ⟨m + n, by rw [hm, World.drewN_drewN]⟩, fun w ⟨n, hn⟩ => hn ▸ h n⟩

/-- 'W, but for draws'. -/
abbrev Draws (W : World) : World → Prop := fun w' => ∃ n, w' = W.drewN n
theorem good_draws (W : World) : Good (fun _ => True) (Draws W) := good_drewN fun _ => trivial
theorem setCell_drewN (W : World) (n : Nat) (a : Addr) (v : Value) : (W.drewN n).setCell a v = (W.setCell a v).drewN n := rfl
theorem alloc_drewN (W : World) (n : Nat) (o : Obj) : (W.drewN n).alloc o = (W.alloc o).drewN n := rfl

/-- A call that writes, met by its contract, to 'W', but for draws'. ('apply': the first goal is the contract.) -/
theorem eff_draws {K : (World → Prop) → Act → Prop} {X : Nat → World} {W' : World} {f : FuncId} {args : Array Value} {v : Value} {A : Value → Act}
    (hc : ∀ n, Calls P f args (X n) fun e w'' => e = .returned v ∧ ∃ m, w'' = W'.drewN m) (hk : K (Draws W') (A v)) :
    ∃ v D, (∀ n, Calls P f args (X n) fun e w'' => e = .returned v ∧ D w'') ∧ Good (fun _ => True) D ∧ K D (A v) :=
  ⟨v, Draws W', hc, good_draws _, hk⟩
/-- A store (kind 2). -/
theorem eff_store {K : (World → Prop) → Act → Prop} {W : World} {x : Addr} {u : Value} {A : Value → Act}
    (hk : K (Draws (W.setCell x u)) (A undef)) :
    ∃ v D, (∀ n : Nat, v = undef ∧ D ((W.drewN n).setCell x u)) ∧ Good (fun _ => True) D ∧ K D (A v) :=
  ⟨undef, Draws (W.setCell x u), fun n => ⟨rfl, n, setCell_drewN _ _ _ _⟩, good_draws _, hk⟩
/-- A call that only reads (kind 1). -/
theorem pin_draws {K : (World → Prop) → Act → Prop} {X : Nat → World} {Y : Nat → Nat → World} {C : World → Prop} {f : FuncId} {args : Array Value} {v : Value} {A : Value → Act}
    (hc : ∀ n, Calls P f args (X n) fun e w'' => e = .returned v ∧ ∃ m, w'' = Y n m) (hk : K C (A v)) :
    ∃ v, (∀ n, Calls P f args (X n) fun e w'' => e = .returned v ∧ ∃ m, w'' = Y n m) ∧ K C (A v) := ⟨v, hc, hk⟩

/-- The same, the first class being 'the world at hand, but for draws'; nothing is known of every stage. -/
theorem wp_region_stages0 {id : Nat} {Q' : Exit → Act → World → Prop} {a : Act} {w : World} {l : List Oper} (ks : List Nat) (hm : P.follows .mixedOrders = true) (hB : stagesB .any l.toArray ks = true)
    (h : wpStage P l.toArray (fun _ => True) (fun C a' => ∀ w', C w' → Q' .normal a' w') ks l (Draws w) a) : (Code.region id l.toArray true).wp P Q' a w :=
  wp_region_stages ks _ _ hm hB (good_drewN fun _ => trivial) ⟨1, rfl⟩ h

/-- The same, with a class S of worlds of which something is known at every stage. -/
theorem wp_region_stagesS {id : Nat} {Q' : Exit → Act → World → Prop} {a : Act} {w : World} {l : List Oper} (ks : List Nat) (S : World → Prop) (hm : P.follows .mixedOrders = true) (hB : stagesB .any l.toArray ks = true) (hS : ∀ n, S (w.drewN n))
    (h : wpStage P l.toArray S (fun C a' => ∀ w', C w' → Q' .normal a' w') ks l (Draws w) a) : (Code.region id l.toArray true).wp P Q' a w :=
  wp_region_stages ks S _ hm hB (good_drewN hS) ⟨1, rfl⟩ h
/-- A call that writes, met by its contract, to a class of worlds. -/
theorem eff_class {S : World → Prop} {K : (World → Prop) → Act → Prop} {X : Nat → World} {f : FuncId} {args : Array Value} {v : Value} {A : Value → Act} (D : World → Prop)
    (hc : ∀ n, Calls P f args (X n) fun e w'' => e = .returned v ∧ D w'') (hD : Good S D) (hk : K D (A v)) :
    ∃ v D, (∀ n, Calls P f args (X n) fun e w'' => e = .returned v ∧ D w'') ∧ Good S D ∧ K D (A v) := ⟨v, D, hc, hD, hk⟩
theorem eff_classC {S : World → Prop} {K : (World → Prop) → Act → Prop} {C : World → Prop} {f : FuncId} {args : Array Value} {v : Value} {A : Value → Act} (D : World → Prop)
    (hc : ∀ n, C n → Calls P f args n fun e w'' => e = .returned v ∧ D w'') (hD : Good S D) (hk : K D (A v)) :
    ∃ v D, (∀ n, C n → Calls P f args n fun e w'' => e = .returned v ∧ D w'') ∧ Good S D ∧ K D (A v) := ⟨v, D, hc, hD, hk⟩
/-- A call that makes new memory alone. -/
theorem new_class {S : World → Prop} {K : (World → Prop) → Act → Prop} {C : World → Prop} {X : Nat → World} {f : FuncId} {args : Array Value} {v : Value} {A : Value → Act} (D : World → Prop)
    (hc : ∀ n, Calls P f args (X n) fun e w'' => e = .returned v ∧ D w'') (hD : Good S D) (hn : ∀ w, D w → Cl C w) (hk : K D (A v)) :
    ∃ v D, (∀ n, Calls P f args (X n) fun e w'' => e = .returned v ∧ D w'') ∧ (Good S D ∧ ∀ w, D w → Cl C w) ∧ K D (A v) := ⟨v, D, hc, ⟨hD, hn⟩, hk⟩
theorem new_classC {S : World → Prop} {K : (World → Prop) → Act → Prop} {C : World → Prop} {f : FuncId} {args : Array Value} {v : Value} {A : Value → Act} (D : World → Prop)
    (hc : ∀ n, C n → Calls P f args n fun e w'' => e = .returned v ∧ D w'') (hD : Good S D) (hn : ∀ w, D w → Cl C w) (hk : K D (A v)) :
    ∃ v D, (∀ n, C n → Calls P f args n fun e w'' => e = .returned v ∧ D w'') ∧ (Good S D ∧ ∀ w, D w → Cl C w) ∧ K D (A v) := ⟨v, D, hc, ⟨hD, hn⟩, hk⟩
/-- A call that only reads (kind 1), in a class of worlds. -/
theorem pin_class {K : (World → Prop) → Act → Prop} {C : World → Prop} {f : FuncId} {args : Array Value} {v : Value} {A : Value → Act}
    (hc : ∀ n, C n → Calls P f args n fun e w'' => e = .returned v ∧ ∃ m, w'' = n.drewN m) (hk : K C (A v)) :
    ∃ v, (∀ n, C n → Calls P f args n fun e w'' => e = .returned v ∧ ∃ m, w'' = n.drewN m) ∧ K C (A v) := ⟨v, hc, hk⟩
/-- The same by the operation itself. -/
theorem stage_new_v {Q : (World → Prop) → Act → Prop} {ks : List Nat} {o : Oper} {rest : List Oper} {C : World → Prop} {a : Act} (hw : Region.wanted o (yielded ops a.tmps) = true) (v : Value) (D : World → Prop)
    (h1 : ∀ w, C w → effUpon P v D ((execOp a.eval o).run P w)) (hD : Good S D) (hn : ∀ w, D w → Cl C w)
    (h : wpStage P ops S Q ks rest D (a.put o.dst v)) : wpStage P ops S Q (4 :: ks) (o :: rest) C a := by
  show opNew P ops S o (wpStage P ops S Q ks rest) C a
  simp only [opNew, hw, if_true]; exact ⟨v, D, h1, ⟨hD, hn⟩, h⟩
theorem stage_hold_v {Q : (World → Prop) → Act → Prop} {ks : List Nat} {o : Oper} {rest : List Oper} {C : World → Prop} {a : Act} (hw : Region.wanted o (yielded ops a.tmps) = true) (v : Value) (h1 : sq P o a (Cl C) v)
    (h : wpStage P ops S Q ks rest C (a.put o.dst v)) : wpStage P ops S Q (3 :: ks) (o :: rest) C a := by
  show opHold P ops o (wpStage P ops S Q ks rest) C a
  simp only [opHold, hw, if_true]; exact ⟨v, h1, h⟩
/-- A conversion that only reads. -/
theorem sq_convert {o : Oper} {a : Act} {X : World → Prop} {v : Value} (src dst : TypeId) (x : Operand) (ho : o.op = .convert src dst x) (h : ∀ w, X w → (convert src dst (a.eval x)).run P w = .ok v w) : sq P o a X v := by
  intro w hw
  have h1 := h w hw
  simp only [Oper.quietAt, execOp, ho, Sem.run_bind, h1, Result.andThen]
  exact ⟨rfl, rfl⟩

/-- An operation that is quiet in every world. -/
theorem stage_anyT {Q : (World → Prop) → Act → Prop} {ks : List Nat} {o : Oper} {rest : List Oper} {C : World → Prop} {a : Act}
    (h : ∀ K : (World → Prop) → Act → Prop, (∀ C a, wpStage P ops S Q ks rest C a → K C a) → opAny P ops (fun _ => True) o K C a) : wpStage P ops S Q (0 :: ks) (o :: rest) C a := by
  have h1 := h _ fun _ _ h => h
  show opAny P ops S o (wpStage P ops S Q ks rest) C a
  unfold opAny at h1 ⊢
  split
  · rename_i hw
    rw [if_pos hw] at h1
    obtain ⟨v, h2, h3⟩ := h1
    exact ⟨v, fun w _ => h2 w trivial, h3⟩
  · rename_i hw
    rw [if_neg hw] at h1
    exact h1

/-- A store into a map. -/
theorem eff_mapUpdate {o : Oper} {a : Act} {C D : World → Prop} (T : TypeId) (m k v : Operand) (ho : o.op = .mapUpdate T m k v) (h : ∀ w, C w → ∃ w', (Instr.mapUpdate T (a.eval m) (a.eval k) (a.eval v)).run P w = .ok () w' ∧ D w') :
    ∀ w, C w → effUpon P undef D ((execOp a.eval o).run P w) := by
  intro w hw
  obtain ⟨w', h1, h2⟩ := h w hw
  simp only [execOp, ho, Sem.run_bind, h1, Result.andThen]
  exact ⟨rfl, h2⟩

theorem stage_skip {Q : (World → Prop) → Act → Prop} {ks : List Nat} {k : Nat} {o : Oper} {rest : List Oper} {C : World → Prop} {a : Act} (hw : Region.wanted o (yielded ops a.tmps) = false)
    (h : wpStage P ops S Q ks rest C (a.put o.dst undef)) : wpStage P ops S Q (k :: ks) (o :: rest) C a := by
  show opW P ops S k o (wpStage P ops S Q ks rest) C a
  unfold opW
  split <;> simp only [opAny, opPin, opEff, opHold, opNew, hw, Bool.false_eq_true, if_false] <;> exact h
theorem stage_any_v {Q : (World → Prop) → Act → Prop} {ks : List Nat} {o : Oper} {rest : List Oper} {C : World → Prop} {a : Act} (hw : Region.wanted o (yielded ops a.tmps) = true) (v : Value) (h1 : sq P o a S v)
    (h : wpStage P ops S Q ks rest C (a.put o.dst v)) : wpStage P ops S Q (0 :: ks) (o :: rest) C a := by
  show opAny P ops S o (wpStage P ops S Q ks rest) C a
  simp only [opAny, hw, if_true]; exact ⟨v, h1, h⟩
theorem stage_pin_v {Q : (World → Prop) → Act → Prop} {ks : List Nat} {o : Oper} {rest : List Oper} {C : World → Prop} {a : Act} (hw : Region.wanted o (yielded ops a.tmps) = true) (v : Value) (h1 : sq P o a C v)
    (h : wpStage P ops S Q ks rest C (a.put o.dst v)) : wpStage P ops S Q (1 :: ks) (o :: rest) C a := by
  show opPin P ops o (wpStage P ops S Q ks rest) C a
  simp only [opPin, hw, if_true]; exact ⟨v, h1, h⟩
theorem stage_eff_v {Q : (World → Prop) → Act → Prop} {ks : List Nat} {o : Oper} {rest : List Oper} {C : World → Prop} {a : Act} (hw : Region.wanted o (yielded ops a.tmps) = true) (v : Value) (D : World → Prop)
    (h1 : ∀ w, C w → effUpon P v D ((execOp a.eval o).run P w)) (hD : Good S D)
    (h : wpStage P ops S Q ks rest D (a.put o.dst v)) : wpStage P ops S Q (2 :: ks) (o :: rest) C a := by
  show opEff P ops S o (wpStage P ops S Q ks rest) C a
  simp only [opEff, hw, if_true]; exact ⟨v, D, h1, hD, h⟩
end

attribute [go_sem] opAny opPin opEff opHold opNew sq effUpon
end Go.Proofs.YtjmfhcliggjdgaaDoor

/- A region that draws its order, walked once in the order of the text, from one world to the next, though some of its operations write: for every region that passes a test on its edges (regB); no other condition. -/
namespace Go.Proofs.YtjmfhcliggjdgaaDoor
open Go

section
variable {P : Program} {ops : Array Oper} {md : Region.Mode} {S : World → Prop}

/-- An operation that does not call: it yields v in the very world that it got. -/
def valUpon (w : World) (v : Value) : Result Next → Prop
  | .ok (.value u) w' => w' = w ∧ u = v
  | .ok .skip w' => w' = w ∧ v = undef
  | _ => False
/-- An operation that may turn the world. -/
def effNext (P : Program) (o : Oper) (a : Act) (K : World → Act → Prop) : Result Next → Prop
  | .ok (.value u) w' => K w' (a.put o.dst u)
  | .ok .skip w' => K w' (a.put o.dst undef)
  | .ok (.enter f args) w' => Calls P f args w' (fun | .returned v, w'' => K w'' (a.put o.dst v) | _, _ => False)
  | _ => False
/-- A world that has all that w has, but for draws, and maybe new memory. -/
def Ex (w w' : World) : Prop := w.heap.size ≤ w'.heap.size ∧ ∀ k, k < w.heap.size → w'.heap[k]? = w.heap[k]?
theorem Ex.refl (w : World) : Ex w w := ⟨Nat.le_refl _, fun _ _ => rfl⟩
theorem Ex.trans {a b c : World} (h : Ex a b) (k : Ex b c) : Ex a c := ⟨Nat.le_trans h.1 k.1, fun j hj => (k.2 j (Nat.lt_of_lt_of_le hj h.1)).trans (h.2 j hj)⟩

/-- What a quiet operation yields: kind 0: in every world of S (no call); 1: in the world at hand, but for draws; 3: in every world that has it, and maybe new memory. -/
def qv (P : Program) (S : World → Prop) (k : Nat) (o : Oper) (w : World) (a : Act) (v : Value) : Prop :=
  match k with
  | 0 => ∀ w', S w' → valUpon w' v ((execOp a.eval o).run P w')
  | 1 => ∀ n, o.quietAt P a (fun w' => ∃ m, w' = w.drewN m) (w.drewN n) v
  | _ => ∀ w', Ex w w' → o.quietAt P a (fun w'' => ∃ m, w'' = w'.drewN m) w' v
/-- What an operation that writes leaves (kinds 2 and, if it makes new memory alone, 4). -/
def ev (P : Program) (S : World → Prop) (k : Nat) (o : Oper) (K : World → Act → Prop) (w : World) (a : Act) : Prop :=
  ∀ n, effNext P o a (fun w' a' => ((∀ m, S (w'.drewN m)) ∧ (k = 4 → Ex w w')) ∧ K w' a') ((execOp a.eval o).run P (w.drewN n))
def op2 (P : Program) (ops : Array Oper) (S : World → Prop) (k : Nat) (o : Oper) (K : World → Act → Prop) (w : World) (a : Act) : Prop :=
  if Region.wanted o (yielded ops a.tmps) then
    (if k = 0 ∨ k = 1 ∨ k = 3 then ∃ v, qv P S k o w a v ∧ K w (a.put o.dst v) else ev P S k o K w a)
  else K w (a.put o.dst undef)

/-- The kind of an operation, if none is given: ov: kinds by place; rd: the functions that only read. -/
def kindOf (rd : List FuncId) (o : Oper) : Nat :=
  match o.op with
  | .move _ => 0 | .assign _ => 0 | .pick _ _ _ => 0 | .binOp _ _ _ _ _ => 0 | .unOp _ _ _ => 0 | .fieldAddr _ _ _ => 0 | .field _ _ _ => 0 | .indexAddr _ _ _ => 0 | .nilCheck _ => 0
  | .extract _ _ => 0 | .slice _ _ _ _ _ => 0 | .build _ _ => 0
  | .load _ _ => 1 | .index _ _ _ => 1 | .lookup _ _ _ _ => 1 | .convert _ _ _ => 1
  | .call c => (match c.callee with
    | .value (.func f) => if rd.contains f then 1 else 2
    | .builtin .len => 1 | .builtin .cap => 0 | .builtin .min => 0 | .builtin .max => 0
    | _ => 2)
  | _ => 2
def kd (ov : List (Nat × Nat)) (rd : List FuncId) (i : Nat) (o : Oper) : Nat := (ov.lookup i).getD (kindOf rd o)

def wpReg (P : Program) (ops : Array Oper) (S : World → Prop) (ov : List (Nat × Nat)) (rd : List FuncId) (Q : World → Act → Prop) : Nat → List Oper → World → Act → Prop
  | _, [], w, a => Q w a
  | i, o :: rest, w, a => op2 P ops S (kd ov rd i o) o (wpReg P ops S ov rd Q (i + 1) rest) w a

/-! ### Two operations may be exchanged -/
theorem valUpon_unique {w : World} {u v : Value} {r : Result Next} (h : valUpon w u r) (k : valUpon w v r) : u = v := by
  cases r with
  | ok n w' =>
    cases n <;> simp only [valUpon] at h k
    · exact h.2.symm.trans k.2
    · exact h.2.trans k.2.symm
  | halt x w' => simp [valUpon] at h
theorem effNext_mono {o : Oper} {a : Act} {K K' : World → Act → Prop} {r : Result Next} (h : effNext P o a K r) (hk : ∀ w a, K w a → K' w a) : effNext P o a K' r := by
  cases r with
  | ok n w' =>
    cases n <;> simp only [effNext] at h ⊢
    · exact hk _ _ h
    · exact hk _ _ h
    · exact h.mono fun e w'' he => by cases e <;> first | exact hk _ _ he | exact he
  | halt x w' => simp [effNext] at h
theorem effNext_some {o : Oper} {a : Act} {K : World → Act → Prop} {r : Result Next} (h : effNext P o a K r) : ∃ w' v, K w' (a.put o.dst v) := by
  cases r with
  | ok n w' =>
    cases n <;> simp only [effNext] at h
    · exact ⟨_, _, h⟩
    · exact ⟨_, _, h⟩
    · obtain ⟨e, w'', fr, hr, _⟩ := h []
      cases e <;> simp only at hr
      exact ⟨_, _, hr⟩
  | halt x w' => simp [effNext] at h
theorem effNext_put {o : Oper} {a : Act} {dst : Option Tmp} {u : Value} {K : World → Act → Prop} {r : Result Next} (hd : ∀ d, o.dst = some d → dst ≠ some d)
    (h : effNext P o (a.put dst u) K r) : effNext P o a (fun w' a' => K w' (a'.put dst u)) r := by
  cases r with
  | ok n w' =>
    cases n <;> simp only [effNext] at h ⊢
    · rw [Act.put_comm a _ u hd]; exact h
    · rw [Act.put_comm a _ u hd]; exact h
    · exact h.mono fun e w'' he => by
        cases e <;> simp only at he ⊢
        rw [Act.put_comm a _ u hd]; exact he
  | halt x w' => simp [effNext] at h

theorem op2_mono {k : Nat} {o : Oper} {K K' : World → Act → Prop} {w : World} {a : Act} (h : ∀ w a, K w a → K' w a) (hh : op2 P ops S k o K w a) : op2 P ops S k o K' w a := by
  unfold op2 at *
  split
  · rename_i hw
    rw [if_pos hw] at hh
    split
    · rename_i hk; rw [if_pos hk] at hh; obtain ⟨v, h1, h2⟩ := hh; exact ⟨v, h1, h _ _ h2⟩
    · rename_i hk; rw [if_neg hk] at hh; exact fun n => effNext_mono (hh n) fun w a ⟨h1, h2⟩ => ⟨h1, h _ _ h2⟩
  · rename_i hw; rw [if_neg hw] at hh; exact h _ _ hh
/-- The same, where the worlds behind are of S. -/
theorem op2_monoS {k : Nat} {o : Oper} {K K' : World → Act → Prop} {w : World} {a : Act} (hS : ∀ n, S (w.drewN n)) (h : ∀ w a, (∀ n, S (w.drewN n)) → K w a → K' w a) (hh : op2 P ops S k o K w a) : op2 P ops S k o K' w a := by
  unfold op2 at *
  split
  · rename_i hw
    rw [if_pos hw] at hh
    split
    · rename_i hk; rw [if_pos hk] at hh; obtain ⟨v, h1, h2⟩ := hh; exact ⟨v, h1, h _ _ hS h2⟩
    · rename_i hk; rw [if_neg hk] at hh; exact fun n => effNext_mono (hh n) fun w a ⟨h1, h2⟩ => ⟨h1, h _ _ h1.1 h2⟩
  · rename_i hw; rw [if_neg hw] at hh; exact h _ _ hS hh

theorem qv_same {k : Nat} {o : Oper} {w : World} {a a' : Act} {v : Value} (he : execOp a'.eval o = execOp a.eval o) (h : qv P S k o w a v) : qv P S k o w a' v := by
  unfold qv Oper.quietAt at *
  rw [he]
  exact h
/-- An operation that is passed by one that writes. -/
theorem qv_move {k : Nat} {o : Oper} {w w' : World} {a : Act} {v : Value} (hk : k = 0 ∨ (k = 3 ∧ Ex w w')) (h : qv P S k o w a v) : qv P S k o w' a v := by
  rcases hk with rfl | ⟨rfl, hx⟩
  · exact h
  · exact fun w'' h'' => h w'' (hx.trans h'')

theorem op2_swap {ki kj : Nat} {oi oj : Oper} (hk : cmpB ki kj = true) (hap : oi.apart ops oj = true)
    (hsi : ∀ cs b, oi.op ≠ .select cs b) (hsj : ∀ cs b, oj.op ≠ .select cs b) {K : World → Act → Prop} {w : World} {a : Act} (_ : ∀ n, S (w.drewN n))
    (h : op2 P ops S ki oi (op2 P ops S kj oj K) w a) : op2 P ops S kj oj (op2 P ops S ki oi K) w a := by
  have hk := cmpB_spec hk
  obtain ⟨h1, h2, h3⟩ := Oper.apart_spec hap
  have h2' : ∀ d, oj.dst = some d → oi.dst ≠ some d := fun d hd he => h2 d he hd
  have eI : ∀ (a : Act) u, execOp (a.put oj.dst u).eval oi = execOp a.eval oi := fun a u => execOp_put oi hsi a oj.dst u h3
  have eJ : ∀ (a : Act) u, execOp (a.put oi.dst u).eval oj = execOp a.eval oj := fun a u => execOp_put oj hsj a oi.dst u h1
  have wI : ∀ (a : Act) u, Region.wanted oi (yielded ops (a.put oj.dst u).tmps) = Region.wanted oi (yielded ops a.tmps) := fun a u => wanted_put oi a oj.dst u h3
  have wJ : ∀ (a : Act) u, Region.wanted oj (yielded ops (a.put oi.dst u).tmps) = Region.wanted oj (yielded ops a.tmps) := fun a u => wanted_put oj a oi.dst u h1
  have com : ∀ (a : Act) v u, (a.put oi.dst v).put oj.dst u = (a.put oj.dst u).put oi.dst v := fun a v u => Act.put_comm a v u h2
  by_cases hwi : Region.wanted oi (yielded ops a.tmps) = true
  · by_cases hwj : Region.wanted oj (yielded ops a.tmps) = true
    · by_cases hqi : ki = 0 ∨ ki = 1 ∨ ki = 3
      · -- oi is quiet
        simp only [op2, hwi, if_true, hqi] at h
        obtain ⟨vi, hvi, hj⟩ := h
        simp only [wJ, hwj, if_true] at hj
        by_cases hqj : kj = 0 ∨ kj = 1 ∨ kj = 3
        · simp only [hqj, if_true] at hj
          obtain ⟨vj, hvj, hK⟩ := hj
          simp only [op2, hwj, if_true, hqj, wI, hwi, hqi]
          exact ⟨vj, qv_same (eJ a vi).symm hvj, vi, qv_same (eI a vj) hvi, by rw [← com]; exact hK⟩
        · simp only [hqj, if_false] at hj
          simp only [op2, hwj, if_true, hqj, if_false]
          intro n
          have hj := hj n
          rw [eJ] at hj
          have hj := effNext_put h2' hj
          -- oi, behind oj
          have hkk : ki = 0 ∨ (ki = 3 ∧ kj = 4) := by omega
          refine effNext_mono (K := fun w' a' => (((∀ m, S (w'.drewN m)) ∧ (kj = 4 → Ex w w')) ∧ K w' (a'.put oi.dst vi)) ∧ Region.wanted oi (yielded ops a'.tmps) = true ∧ execOp a'.eval oi = execOp a.eval oi) ?_ ?_
          · revert hj
            generalize (execOp a.eval oj).run P (w.drewN n) = r
            intro hj
            cases r with
            | ok x w' =>
              cases x <;> simp only [effNext] at hj ⊢
              · exact ⟨hj, by rw [wI]; exact hwi, eI _ _⟩
              · exact ⟨hj, by rw [wI]; exact hwi, eI _ _⟩
              · exact hj.mono fun e w'' he => by
                  cases e <;> simp only at he ⊢
                  exact ⟨he, by rw [wI]; exact hwi, eI _ _⟩
            | halt x w' => simp [effNext] at hj
          · intro w' a' ⟨⟨hs, hK⟩, hw', he'⟩
            refine ⟨hs, ?_⟩
            unfold op2
            rw [if_pos hw', if_pos hqi]
            refine ⟨vi, qv_same he' (qv_move ?_ hvi), hK⟩
            rcases hkk with h | ⟨h, h4⟩
            · exact .inl h
            · exact .inr ⟨h, hs.2 h4⟩
      · -- oi writes: oj is quiet in all of S
        have hkj : kj = 0 := by omega
        subst hkj
        simp only [op2, hwi, if_true, hqi, if_false] at h
        have get : ∀ n, effNext P oi a (fun w' a' => ((∀ m, S (w'.drewN m)) ∧ (ki = 4 → Ex w w')) ∧ ∃ vj, qv P S 0 oj w' a vj ∧ K w' (a'.put oj.dst vj)) ((execOp a.eval oi).run P (w.drewN n)) := by
          intro n
          have hn := h n
          revert hn
          generalize (execOp a.eval oi).run P (w.drewN n) = r
          intro hn
          cases r with
          | ok x w' =>
            cases x <;> simp only [effNext] at hn ⊢
            · obtain ⟨hs, hn⟩ := hn
              unfold op2 at hn
              rw [wJ, if_pos hwj, if_pos (.inl rfl)] at hn
              obtain ⟨vj, hv, hK⟩ := hn
              exact ⟨hs, vj, qv_same (eJ a _).symm hv, hK⟩
            · obtain ⟨hs, hn⟩ := hn
              unfold op2 at hn
              rw [wJ, if_pos hwj, if_pos (.inl rfl)] at hn
              obtain ⟨vj, hv, hK⟩ := hn
              exact ⟨hs, vj, qv_same (eJ a _).symm hv, hK⟩
            · refine hn.mono fun e w'' he => ?_
              cases e <;> simp only at he ⊢
              obtain ⟨hs, hn⟩ := he
              unfold op2 at hn
              rw [wJ, if_pos hwj, if_pos (.inl rfl)] at hn
              obtain ⟨vj, hv, hK⟩ := hn
              exact ⟨hs, vj, qv_same (eJ a _).symm hv, hK⟩
          | halt x w' => simp [effNext] at hn
        obtain ⟨w0, v0, _, vj, hv, _⟩ := effNext_some (get 0)
        simp only [op2, hwj, if_true, true_or]
        refine ⟨vj, hv, ?_⟩
        simp only [wI, hwi, if_true, hqi, if_false]
        intro n
        have hn := get n
        rw [eI]
        have fin : effNext P oi a (fun w' a' => ((∀ m, S (w'.drewN m)) ∧ (ki = 4 → Ex w w')) ∧ K w' (a'.put oj.dst vj)) ((execOp a.eval oi).run P (w.drewN n)) :=
          effNext_mono hn fun w' a' ⟨hs, vj', hv', hK⟩ => ⟨hs, by
            have e : vj' = vj := valUpon_unique (hv' _ (hs.1 0)) (hv _ (hs.1 0))
            rw [← e]; exact hK⟩
        revert fin
        generalize (execOp a.eval oi).run P (w.drewN n) = r
        intro fin
        cases r with
        | ok x w' =>
          cases x <;> simp only [effNext] at fin ⊢
          · rw [← com]; exact fin
          · rw [← com]; exact fin
          · exact fin.mono fun e w'' he => by
              cases e <;> simp only at he ⊢
              rw [← com]; exact he
        | halt x w' => simp [effNext] at fin
    · -- oj is not wanted
      have hwj' : Region.wanted oj (yielded ops a.tmps) = false := by simpa using hwj
      have step : ∀ w' u, op2 P ops S kj oj K w' (a.put oi.dst u) → K w' ((a.put oj.dst undef).put oi.dst u) := by
        intro w' u hh
        simp only [op2, wJ, hwj', Bool.false_eq_true, if_false] at hh
        rw [← com]; exact hh
      show op2 P ops S kj oj (op2 P ops S ki oi K) w a
      unfold op2
      rw [if_neg hwj]
      rw [wI, if_pos hwi]
      unfold op2 at h
      rw [if_pos hwi] at h
      split
      · rename_i hq
        rw [if_pos hq] at h
        obtain ⟨v, hv, hh⟩ := h
        exact ⟨v, qv_same (eI a _) hv, step _ _ hh⟩
      · rename_i hq
        rw [if_neg hq] at h
        intro n
        have hn := h n
        rw [eI]
        revert hn
        generalize (execOp a.eval oi).run P (w.drewN n) = r
        intro hn
        cases r with
        | ok x w' =>
          cases x <;> simp only [effNext] at hn ⊢
          · exact ⟨hn.1, step _ _ hn.2⟩
          · exact ⟨hn.1, step _ _ hn.2⟩
          · exact hn.mono fun e w'' he => by
              cases e <;> simp only at he ⊢
              exact ⟨he.1, step _ _ he.2⟩
        | halt x w' => simp [effNext] at hn
  · -- oi is not wanted
    have hwi' : Region.wanted oi (yielded ops a.tmps) = false := by simpa using hwi
    have h' : op2 P ops S kj oj K w (a.put oi.dst undef) := by
      unfold op2 at h
      rw [if_neg hwi] at h
      exact h
    have step : ∀ w' u, K w' ((a.put oj.dst u).put oi.dst undef) → op2 P ops S ki oi K w' (a.put oj.dst u) := by
      intro w' u hh
      unfold op2
      rw [wI, if_neg hwi]
      exact hh
    unfold op2 at h' ⊢
    rw [wJ] at h'
    split
    · rename_i hw
      rw [if_pos hw] at h'
      split
      · rename_i hq
        rw [if_pos hq] at h'
        obtain ⟨v, hv, hh⟩ := h'
        exact ⟨v, qv_same (eJ a _).symm hv, step _ _ (by rw [← com]; exact hh)⟩
      · rename_i hq
        rw [if_neg hq] at h'
        intro n
        have hn := h' n
        rw [eJ] at hn
        have hn := effNext_put h2' hn
        revert hn
        generalize (execOp a.eval oj).run P (w.drewN n) = r
        intro hn
        cases r with
        | ok x w' =>
          cases x <;> simp only [effNext] at hn ⊢
          · exact ⟨hn.1, step _ _ hn.2⟩
          · exact ⟨hn.1, step _ _ hn.2⟩
          · exact hn.mono fun e w'' he => by
              cases e <;> simp only at he ⊢
              exact ⟨he.1, step _ _ he.2⟩
        | halt x w' => simp [effNext] at hn
    · rename_i hw
      rw [if_neg hw] at h'
      exact step _ _ (by rw [← com]; exact h')

/-! ### Every order -/
def q2 (P : Program) (ops : Array Oper) (S : World → Prop) (kf : Nat → Oper → Nat) (i : Nat) (K : World → Act → Prop) (w : World) (a : Act) : Prop :=
  match ops[i]? with
  | none => K w a
  | some o => op2 P ops S (kf i o) o K w a
def any2 (P : Program) (md : Region.Mode) (ops : Array Oper) (S : World → Prop) (kf : Nat → Oper → Nat) (Q : World → Act → Prop) : Nat → Array Bool → World → Act → Prop
  | 0, listed, w, a => Region.ready md ops listed = [] ∧ Q w a
  | fuel + 1, listed, w, a =>
    (Region.ready md ops listed = [] → Q w a) ∧
    ∀ i ∈ Region.ready md ops listed, q2 P ops S kf i (any2 P md ops S kf Q fuel (listed.setIfInBounds i true)) w a

theorem wp_of_q {o : Oper} {a : Act} {v : Value} {w W : World} {K : Act → World → Prop} {Q' : Exit → Act → World → Prop} (h : ∀ w', (∃ m, w' = W.drewN m) → K (a.put o.dst v) w') (hw : ∃ m, w = W.drewN m)
    (hq : o.quietAt P a (fun w' => ∃ m, w' = W.drewN m) w v) : o.wp P a w K Q' := by
  unfold Oper.quietAt at hq
  unfold Oper.wp
  generalize (execOp a.eval o).run P w = r at *
  cases r with
  | ok n w' =>
    cases n <;> simp only [Oper.quietUpon] at hq <;> simp only [Oper.upon]
    case value u =>
      obtain ⟨e1, e2⟩ := hq
      rw [e1, e2]
      exact h _ hw
    case skip =>
      obtain ⟨e1, e2⟩ := hq
      rw [e1, ← e2]
      exact h _ hw
    case enter f args =>
      obtain ⟨e1, hc⟩ := hq
      rw [e1]
      exact hc.mono fun e w'' ⟨he, hn⟩ => by subst he; exact h _ hn
  | halt x w' => simp only [Oper.quietUpon] at hq

theorem wpOp_of_2 {kf : Nat → Oper → Nat} {i : Nat} {K : World → Act → Prop} {K' : Act → World → Prop} {Q' : Exit → Act → World → Prop} {w : World} {a : Act} (hS : ∀ n, S (w.drewN n))
    (h : ∀ w a, (∀ n, S (w.drewN n)) → K w a → ∀ n, K' a (w.drewN n)) (hh : q2 P ops S kf i K w a) (n : Nat) : wpOp P ops Q' i K' a (w.drewN n) := by
  unfold q2 at hh
  unfold wpOp
  split
  · rename_i ho; simp only [ho] at hh; exact h _ _ hS hh n
  · rename_i o ho
    simp only [ho] at hh
    unfold op2 at hh
    split
    · rename_i hw
      rw [if_pos hw] at hh
      refine .inl ?_
      split at hh
      · rename_i hk
        obtain ⟨v, hv, hK⟩ := hh
        have hq : o.quietAt P a (fun w' => ∃ m, w' = w.drewN m) (w.drewN n) v := by
          rcases hk with e | e | e
          · rw [e] at hv
            have hv := hv _ (hS n)
            unfold Oper.quietAt
            generalize (execOp a.eval o).run P (w.drewN n) = r at *
            cases r with
            | ok x w' => cases x <;> simp only [valUpon] at hv <;> exact hv
            | halt x w' => simp [valUpon] at hv
          · rw [e] at hv; exact hv n
          · rw [e] at hv
            have hv := hv (w.drewN n) ⟨Nat.le_refl _, fun _ _ => rfl⟩
            unfold Oper.quietAt at *
            generalize (execOp a.eval o).run P (w.drewN n) = r at *
            cases r with
            | ok x w' =>
              cases x <;> simp only [Oper.quietUpon] at hv ⊢
              · exact hv
              · exact hv
              · exact ⟨hv.1, hv.2.mono fun e w'' ⟨he, m, hm⟩ => ⟨he, n + m, by rw [hm, World.drewN_drewN]⟩⟩
            | halt x w' => simp [Oper.quietUpon] at hv
        exact wp_of_q (W := w) (fun w' ⟨m, hm⟩ => by rw [hm]; exact h _ _ hS hK m) ⟨n, rfl⟩ hq
      · have hn := hh n
        unfold Oper.wp
        generalize (execOp a.eval o).run P (w.drewN n) = r at *
        cases r with
        | ok x w' =>
          cases x <;> simp only [effNext] at hn <;> simp only [Oper.upon]
          · exact h _ _ hn.1.1 hn.2 0
          · exact h _ _ hn.1.1 hn.2 0
          · refine hn.mono fun e w'' he => ?_
            cases e <;> simp only at he
            exact h _ _ he.1.1 he.2 0
        | halt x w' => simp [effNext] at hn
    · rename_i hw
      rw [if_neg hw] at hh
      exact h _ _ hS hh n

theorem wpAny_of_2 {kf : Nat → Oper → Nat} {Q : World → Act → Prop} {Q' : Exit → Act → World → Prop} (hQ : ∀ w a, Q w a → ∀ n, Q' .normal a (w.drewN n)) : ∀ (fuel : Nat) (listed : Array Bool) (w : World) (a : Act), (∀ n, S (w.drewN n)) →
    any2 P md ops S kf Q fuel listed w a → ∀ n, wpAny P md ops Q' fuel listed a (w.drewN n)
  | 0, _, _, _, _, h, n => ⟨h.1, hQ _ _ h.2 n⟩
  | fuel + 1, _, _, _, hS, h, n => ⟨fun h0 => hQ _ _ (h.1 h0) n, fun i hi => wpOp_of_2 hS (fun w' a' hS' hk n => wpAny_of_2 hQ fuel _ w' a' hS' hk n) (h.2 i hi) n⟩

/-- An operation that may come up now may be taken first. -/
theorem any2_first {kf : Nat → Oper → Nat} {Q : World → Act → Prop} {i : Nat} {oi : Oper} (hi : ops[i]? = some oi) (hsel : ∀ (j : Nat) (o : Oper) cs b, ops[j]? = some o → o.op ≠ .select cs b) :
    ∀ (fuel : Nat) (listed : Array Bool) (w : World) (a : Act), (∀ n, S (w.drewN n)) → DC md ops listed →
      (∀ j oj, ops[j]? = some oj → j ≠ i → listed.getD j true = false → (∀ e ∈ oj.after, Region.binds md e = true → e.on ≠ i) → oi.apart ops oj = true) →
      (∀ j oj, ops[j]? = some oj → j ≠ i → listed.getD j true = false → j ∉ descs md ops i → cmpB (kf i oi) (kf j oj) = true) →
      i ∈ Region.ready md ops listed → op2 P ops S (kf i oi) oi (any2 P md ops S kf Q fuel (listed.setIfInBounds i true)) w a → any2 P md ops S kf Q (fuel + 1) listed w a := by
  intro fuel
  induction fuel with
  | zero =>
    intro listed w a _ _ hfree _ hr H
    refine ⟨fun h => (by rw [h] at hr; cases hr), fun j hj => ?_⟩
    by_cases hji : j = i
    · subst hji; unfold q2; simp only [hi]; exact H
    · exfalso
      have hj' := ready_mono hj hji
      have hnil : Region.ready md ops (listed.setIfInBounds i true) = [] := by
        unfold op2 at H
        split at H
        · split at H
          · obtain ⟨v, _, h2⟩ := H; exact h2.1
          · obtain ⟨w', v, _, h2⟩ := effNext_some (H 0)
            exact h2.1
        · exact H.1
      rw [hnil] at hj'
      cases hj'
  | succ fuel ih =>
    intro listed w a hS hd hfree hcomp hr H
    refine ⟨fun h => (by rw [h] at hr; cases hr), fun j hj => ?_⟩
    by_cases hji : j = i
    · subst hji; unfold q2; simp only [hi]; exact H
    · obtain ⟨hjun, oj, hoj, hall⟩ := mem_ready.1 hj
      have hnot : ∀ e ∈ oj.after, Region.binds md e = true → e.on ≠ i := fun e he hb heq => by
        have h1 := hall e he hb
        have h0 := (mem_ready.1 hr).1
        rw [heq] at h1
        rcases Nat.lt_or_ge i listed.size with h' | h'
        · simp [h'] at h0 h1; rw [h0] at h1; cases h1
        · simp [Array.getElem?_eq_none h'] at h1
      have hiun := (mem_ready.1 hr).1
      have H1 : op2 P ops S (kf i oi) oi (op2 P ops S (kf j oj) oj (any2 P md ops S kf Q fuel ((listed.setIfInBounds i true).setIfInBounds j true))) w a := by
        refine op2_mono (fun w' a' h' => ?_) H
        have h1 := h'.2 j (ready_mono hj hji)
        unfold q2 at h1
        simp only [hoj] at h1
        exact h1
      have h2 := op2_swap (hcomp j oj hoj hji hjun (not_desc hd hiun hj hji)) (hfree j oj hoj hji hjun hnot) (fun cs b => hsel i oi cs b hi) (fun cs b => hsel j oj cs b hoj) hS H1
      unfold q2
      simp only [hoj]
      refine op2_monoS hS (fun w' a' hS' h3 => ?_) h2
      refine ih (listed.setIfInBounds j true) w' a' hS' (dc_set hd hj) (fun k ok hk hki hun hno => ?_) (fun k ok hk hki hun hno => ?_) (ready_mono hr (Ne.symm hji)) ?_
      · refine hfree k ok hk hki ?_ hno
        by_cases hjk : j = k
        · subst hjk; exact hjun
        · rw [getD_set_ne true hjk] at hun; exact hun
      · refine hcomp k ok hk hki ?_ hno
        by_cases hjk : j = k
        · subst hjk; exact hjun
        · rw [getD_set_ne true hjk] at hun; exact hun
      · rw [Array.setIfInBounds_comm _ _ hji]
        exact h3

/-- The test on the edges. -/
def regB (md : Region.Mode) (ops : Array Oper) (ks : List Nat) : Bool := stagesB md ops ks

theorem any2_lex {kf : Nat → Oper → Nat} {Q : World → Act → Prop} (hs : Region.noSelect ops = true)
    (hcomp : ∀ i j oi oj, i < j → ops[i]? = some oi → ops[j]? = some oj → cmpB (kf i oi) (kf j oj) = true ∨ j ∈ descs md ops i) (W : Nat → List Oper → World → Act → Prop)
    (hW0 : ∀ i w a, W i [] w a → Q w a) (hW : ∀ i o rest w a, W i (o :: rest) w a → op2 P ops S (kf i o) o (W (i + 1) rest) w a) : ∀ (l : List Oper) (k : Nat) (listed : Array Bool) (w : World) (a : Act), (∀ n, S (w.drewN n)) → DC md ops listed → (∀ j, j < k → listed.getD j true = true) → listed.size = ops.size → (∀ j, l[j]? = ops[k + j]?) →
    Region.lexFrom md ops l.length k listed = true → W k l w a → any2 P md ops S kf Q l.length listed w a
  | [], k, _, _, _, _, _, _, _, _, hB, h => ⟨by simpa [Region.lexFrom] using hB, hW0 _ _ _ h⟩
  | o :: l, k, listed, w, a, hS, hd, hlow, hsz, hl, hB, h => by
    have h0 : ops[k]? = some o := by simpa using (hl 0).symm
    simp only [List.length_cons, Region.lexFrom, Bool.and_eq_true] at hB
    obtain ⟨⟨hr, hf⟩, hB'⟩ := hB
    have hr' : k ∈ Region.ready md ops listed := by simpa using hr
    have hgt : ∀ j, j ≠ k → listed.getD j true = false → k < j := by
      intro j hji hun
      rcases Nat.lt_trichotomy j k with h1 | h1 | h1
      · rw [hlow j h1] at hun; cases hun
      · exact absurd h1 hji
      · exact h1
    refine any2_first h0 (Region.noSelect_spec hs) l.length listed w a hS hd (Region.free_spec h0 hf) (fun j oj hoj hji hun hno => ?_) hr'
      (op2_monoS hS (fun w' a' hS' h' => any2_lex hs hcomp W hW0 hW l (k + 1) _ _ _ hS' (dc_set hd hr') (fun j hj => ?_) (by simp [hsz]) (fun j => by have := hl (j + 1); simpa [Nat.add_assoc, Nat.add_comm 1 j] using this) hB' h') (hW _ _ _ _ _ h))
    · rcases hcomp k j o oj (hgt j hji hun) h0 hoj with h1 | h1
      · exact h1
      · exact absurd h1 hno
    · by_cases hjk : k = j
      · subst hjk
        have hlt : k < listed.size := by rw [hsz]; exact (Array.getElem?_eq_some_iff.1 h0).1
        simp [hlt]
      · rw [getD_set_ne true hjk]; exact hlow j (by omega)

/-- Kinds, place by place. -/
def kinds (ov : List (Nat × Nat)) (rd : List FuncId) : Nat → List Oper → List Nat
  | _, [] => []
  | i, o :: l => kd ov rd i o :: kinds ov rd (i + 1) l
theorem kinds_getD (ov : List (Nat × Nat)) (rd : List FuncId) : ∀ (l : List Oper) (i j : Nat) (o : Oper), l[j]? = some o → (kinds ov rd i l).getD j 0 = kd ov rd (i + j) o
  | [], _, _, _, h => by simp at h
  | o' :: l, i, 0, o, h => by simp at h; subst h; rfl
  | o' :: l, i, j + 1, o, h => by
    have := kinds_getD ov rd l (i + 1) j o (by simpa using h)
    simp only [kinds, List.getD_cons_succ]
    rw [this, show i + 1 + j = i + (j + 1) by omega]

/-- A region that draws its order: ONE WALK IN THE ORDER OF THE TEXT, from world to world. -/
theorem wp_regionS {id : Nat} {Q' : Exit → Act → World → Prop} {a : Act} {w : World} {l : List Oper} (ov : List (Nat × Nat)) (rd : List FuncId) (S : World → Prop) (hm : P.follows .mixedOrders = true) (hB : stagesB .any l.toArray (kinds ov rd 0 l) = true)
    (hS : ∀ n, S (w.drewN n)) (h : wpReg P l.toArray S ov rd (fun w' a' => ∀ n, Q' .normal a' (w'.drewN n)) 0 l w a) : (Code.region id l.toArray true).wp P Q' a w := by
  obtain ⟨h1, h2, h3⟩ := stagesB_spec hB
  refine wp_region_any hm ?_
  have h4 : any2 P .any l.toArray S (kd ov rd) (fun w' a' => ∀ n, Q' .normal a' (w'.drewN n)) l.length (Array.replicate l.toArray.size false) w a :=
    any2_lex (Q := fun w' a' => ∀ n, Q' .normal a' (w'.drewN n)) h1 (fun i j oi oj hij hi hj => by
      have e1 := kinds_getD ov rd l 0 i oi (by simpa using hi)
      have e2 := kinds_getD ov rd l 0 j oj (by simpa using hj)
      have := h3 i j hij
      rw [e1, e2, Nat.zero_add, Nat.zero_add] at this
      rcases this with h | h | h
      · exact .inl h
      · exact .inr h
      · have := (Array.getElem?_eq_some_iff.1 hj).1
        omega) (wpReg P l.toArray S ov rd (fun w' a' => ∀ n, Q' .normal a' (w'.drewN n))) (fun i w a h => h) (fun i o rest w a h => h) l 0 (Array.replicate l.toArray.size false) w a hS (fun j o ho hl => by
        have hlt := (Array.getElem?_eq_some_iff.1 ho).1
        rw [Array.getElem?_replicate, if_pos hlt] at hl; cases hl) (fun j hj => by omega) (by simp) (by simp) (by simpa using h2) h
  have h5 := wpAny_of_2 (Q' := Q') (fun w a h => h) _ _ w a hS h4 1
  show wpAny P .any l.toArray Q' l.toArray.size (Array.replicate l.toArray.size false) a (w.drewN 1)
  simpa using h5
theorem wp_region2 {id : Nat} {Q' : Exit → Act → World → Prop} {a : Act} {w : World} {l : List Oper} (ov : List (Nat × Nat)) (rd : List FuncId) (hm : P.follows .mixedOrders = true) (hB : stagesB .any l.toArray (kinds ov rd 0 l) = true)
    (h : wpReg P l.toArray (fun _ => True) ov rd (fun w' a' => ∀ n, Q' .normal a' (w'.drewN n)) 0 l w a) : (Code.region id l.toArray true).wp P Q' a w :=
  wp_regionS ov rd _ hm hB (fun _ => trivial) h

/-! ### One operation at a time -/
def qOf (P : Program) (ops : Array Oper) (S : World → Prop) (o : Oper) (K : World → Act → Prop) (w : World) (a : Act) : Prop :=
  if Region.wanted o (yielded ops a.tmps) then ∃ v, (∀ w', S w' → valUpon w' v ((execOp a.eval o).run P w')) ∧ K w (a.put o.dst v) else K w (a.put o.dst undef)
def rOf (P : Program) (ops : Array Oper) (o : Oper) (K : World → Act → Prop) (w : World) (a : Act) : Prop :=
  if Region.wanted o (yielded ops a.tmps) then ∃ v, (∀ n, o.quietAt P a (fun w' => ∃ m, w' = w.drewN m) (w.drewN n) v) ∧ K w (a.put o.dst v) else K w (a.put o.dst undef)
def eOf (P : Program) (ops : Array Oper) (o : Oper) (K : World → Act → Prop) (w : World) (a : Act) : Prop :=
  if Region.wanted o (yielded ops a.tmps) then effNext P o a K ((execOp a.eval o).run P w) else K w (a.put o.dst undef)
variable {ov : List (Nat × Nat)} {rd : List FuncId} {Q : World → Act → Prop} {i : Nat} {o : Oper} {rest : List Oper} {w : World} {a : Act}
theorem reg_any (hk : kd ov rd i o = 0) (h : ∀ K : World → Act → Prop, (∀ w a, wpReg P ops S ov rd Q (i + 1) rest w a → K w a) → qOf P ops S o K w a) : wpReg P ops S ov rd Q i (o :: rest) w a := by
  have h1 := h _ fun _ _ h => h
  show op2 P ops S (kd ov rd i o) o _ w a
  rw [hk]
  exact h1
/-- .. where nothing is known of every stage. -/
theorem reg_anyT (hk : kd ov rd i o = 0) (h : ∀ K : World → Act → Prop, (∀ w a, wpReg P ops S ov rd Q (i + 1) rest w a → K w a) → qOf P ops (fun _ => True) o K w a) : wpReg P ops S ov rd Q i (o :: rest) w a := by
  refine reg_any hk fun K hK => ?_
  have h1 := h K hK
  unfold qOf at h1 ⊢
  split
  · rename_i hw
    rw [if_pos hw] at h1
    obtain ⟨v, h2, h3⟩ := h1
    exact ⟨v, fun w _ => h2 w trivial, h3⟩
  · rename_i hw
    rw [if_neg hw] at h1
    exact h1
theorem reg_read (hk : kd ov rd i o = 1) (h : ∀ K : World → Act → Prop, (∀ w a, wpReg P ops S ov rd Q (i + 1) rest w a → K w a) → rOf P ops o K w a) : wpReg P ops S ov rd Q i (o :: rest) w a := by
  have h1 := h _ fun _ _ h => h
  show op2 P ops S (kd ov rd i o) o _ w a
  rw [hk]
  exact h1
/-- An operation that writes; the world that it meets is 'w', drawn on. -/
theorem reg_effS (hk : kd ov rd i o = 2) (h : ∀ n, ∀ K : World → Act → Prop, (∀ w' a, (∀ m, S (w'.drewN m)) ∧ wpReg P ops S ov rd Q (i + 1) rest w' a → K w' a) → eOf P ops o K (w.drewN n) a) : wpReg P ops S ov rd Q i (o :: rest) w a := by
  show op2 P ops S (kd ov rd i o) o _ w a
  rw [hk]
  unfold op2
  split
  · rename_i hw
    show ev P S 2 o _ w a
    intro n
    have h1 := h n _ fun _ _ h => h
    unfold eOf at h1
    rw [if_pos hw] at h1
    exact effNext_mono h1 fun w' a' ⟨h2, h3⟩ => ⟨⟨h2, fun e => by cases e⟩, h3⟩
  · rename_i hw
    have h1 := h 0 _ fun _ _ h => h
    unfold eOf at h1
    rw [if_neg hw] at h1
    exact h1.2
theorem reg_eff (hk : kd ov rd i o = 2) (h : ∀ n, ∀ K : World → Act → Prop, (∀ w' a, wpReg P ops (fun _ => True) ov rd Q (i + 1) rest w' a → K w' a) → eOf P ops o K (w.drewN n) a) : wpReg P ops (fun _ => True) ov rd Q i (o :: rest) w a :=
  reg_effS hk fun n K hK => h n K fun w' a' h' => hK w' a' ⟨fun _ => trivial, h'⟩
/-- An operation that makes new memory alone (kind 4). -/
theorem reg_new (hk : kd ov rd i o = 4) (h : ∀ n, ∀ K : World → Act → Prop, (∀ w' a, Ex w w' ∧ wpReg P ops (fun _ => True) ov rd Q (i + 1) rest w' a → K w' a) → eOf P ops o K (w.drewN n) a) : wpReg P ops (fun _ => True) ov rd Q i (o :: rest) w a := by
  show op2 P ops _ (kd ov rd i o) o _ w a
  rw [hk]
  unfold op2
  split
  · rename_i hw
    rw [if_neg (by decide)]
    intro n
    have h1 := h n _ fun _ _ h => h
    unfold eOf at h1
    rw [if_pos hw] at h1
    exact effNext_mono h1 fun w' a' ⟨h2, h3⟩ => ⟨⟨fun _ => trivial, fun _ => h2⟩, h3⟩
  · rename_i hw
    have h1 := h 0 _ fun _ _ h => h
    unfold eOf at h1
    rw [if_neg hw] at h1
    exact h1.2
/-- An operation that only reads, in every world that has the one at hand, and maybe new memory (kind 3). -/
theorem reg_hold_v (hk : kd ov rd i o = 3) (hw : Region.wanted o (yielded ops a.tmps) = true) (v : Value) (h1 : ∀ w', Ex w w' → o.quietAt P a (fun w'' => ∃ m, w'' = w'.drewN m) w' v)
    (h : wpReg P ops S ov rd Q (i + 1) rest w (a.put o.dst v)) : wpReg P ops S ov rd Q i (o :: rest) w a := by
  show op2 P ops S (kd ov rd i o) o _ w a
  rw [hk]
  unfold op2
  rw [if_pos hw, if_pos (by decide)]
  exact ⟨v, h1, h⟩
theorem reg_read_v (hk : kd ov rd i o = 1) (hw : Region.wanted o (yielded ops a.tmps) = true) (v : Value) (h1 : ∀ n, o.quietAt P a (fun w'' => ∃ m, w'' = w.drewN m) (w.drewN n) v)
    (h : wpReg P ops S ov rd Q (i + 1) rest w (a.put o.dst v)) : wpReg P ops S ov rd Q i (o :: rest) w a := by
  show op2 P ops S (kd ov rd i o) o _ w a
  rw [hk]
  unfold op2
  rw [if_pos hw, if_pos (by decide)]
  exact ⟨v, h1, h⟩
theorem q_conv {o : Oper} {a : Act} {w : World} {C : World → Prop} {v : Value} (src dst : TypeId) (x : Operand) (ho : o.op = .convert src dst x) (h : (convert src dst (a.eval x)).run P w = .ok v w) : o.quietAt P a C w v := by
  simp only [Oper.quietAt, execOp, ho, Sem.run_bind, h, Result.andThen]
  exact ⟨rfl, rfl⟩
theorem q_load {o : Oper} {a : Act} {w : World} {C : World → Prop} {v : Value} (t : TypeId) (x : Operand) (p : Addr) (ho : o.op = .load t x) (hx : a.eval x = .pointer (some p)) (ht : ∀ w, (isAgg t).run P w = .ok false w) (hc : w.cell? p = some v) : o.quietAt P a C w v := by
  simp [Oper.quietAt, execOp, ho, hx, Instr.loadAt, Instr.sureAddr, loadVar, load, Sem.run, hc, ht, Result.andThen, Oper.quietUpon]
theorem Ex.cell {w w' : World} (h : Ex w w') {p : Addr} {u : Value} (hp : w.cell? p = some u) : w'.cell? p = some u :=
  (World.cell?_of_block (w := w) (h.2 p.block (World.block_lt_of_cell? w p hp))).trans hp
theorem rd_same {f : FuncId} {args : Array Value} {w : World} {n : Nat} {v : Value} (h : Calls P f args (w.drewN n) fun e w' => e = .returned v ∧ w.drewN n = w') : Calls P f args (w.drewN n) fun e w'' => e = .returned v ∧ ∃ m, w'' = w.drewN m :=
  h.mono fun _ _ ⟨he, hm⟩ => ⟨he, n, hm.symm⟩
theorem wpReg_nil : wpReg P ops S ov rd Q i [] w a = Q w a := rfl
theorem wpReg_cons : wpReg P ops S ov rd Q i (o :: rest) w a = op2 P ops S (kd ov rd i o) o (wpReg P ops S ov rd Q (i + 1) rest) w a := rfl
theorem reg_nil (h : Q w a) : wpReg P ops S ov rd Q i [] w a := h
end
theorem Mod.ex {w w' : World} {n : Nat} (h : Mod (fun _ => False) (w.drewN n) w') : Ex w w' := ⟨h.size, fun k hk => h.block k hk (fun h => h)⟩
theorem Mod.undrew {S : Nat → Prop} {w w' : World} {n : Nat} (h : Mod S (w.drewN n) w') : Mod S w w' := ⟨h.os, h.tape, h.output, h.size, h.block⟩
attribute [go_sem] qOf rOf eOf valUpon effNext
attribute [irreducible] wpReg
end Go.Proofs.YtjmfhcliggjdgaaDoor

/- A map with int keys as a sorted list of pairs: look-up, store, delete, length, as laws on the model's runs; for every map of fewer than 2^63 entries. -/
namespace Go.Proofs.YtjmfhcliggjdgaaDoor
open Go Go.RowKit
open Go.Maps (Keyed)

section
variable {α : Type}
def insS (x : Int × α) : List (Int × α) → List (Int × α)
  | [] => [x]
  | y :: r => if x.1 < y.1 then x :: y :: r else y :: insS x r
def delL (l : List (Int × α)) (k : Int) : List (Int × α) := l.filter fun p => p.1 ≠ k
def putL (l : List (Int × α)) (k : Int) (v : α) : List (Int × α) := insS (k, v) (delL l k)
def lkL (l : List (Int × α)) (k : Int) : Option α := (l.find? fun p => p.1 == k).map (·.2)
def keysL (l : List (Int × α)) : List Int := l.map (·.1)
def Rising (l : List (Int × α)) : Prop := l.Pairwise fun p q => p.1 < q.1

theorem mem_insS {x p : Int × α} : ∀ {l : List (Int × α)}, p ∈ insS x l ↔ p = x ∨ p ∈ l
  | [] => by simp [insS]
  | y :: r => by
    unfold insS
    split
    · simp
    · simp only [List.mem_cons, mem_insS (l := r)]
      constructor
      · rintro (h | h | h) <;> simp [h]
      · rintro (h | h | h) <;> simp [h]
theorem rising_insS {x : Int × α} : ∀ {l : List (Int × α)}, Rising l → (∀ p ∈ l, p.1 ≠ x.1) → Rising (insS x l)
  | [], _, _ => List.pairwise_singleton _ _
  | y :: r, h, hne => by
    obtain ⟨h1, h2⟩ := List.pairwise_cons.1 h
    unfold insS
    split
    · rename_i hlt
      refine List.pairwise_cons.2 ⟨fun q hq => ?_, h⟩
      rcases List.mem_cons.1 hq with rfl | hq
      · exact hlt
      · exact Int.lt_trans hlt (h1 q hq)
    · rename_i hlt
      refine List.pairwise_cons.2 ⟨fun q hq => ?_, rising_insS h2 fun p hp => hne p (List.mem_cons_of_mem _ hp)⟩
      rcases mem_insS.1 hq with rfl | hq
      · have := hne y (List.mem_cons_self ..); omega
      · exact h1 q hq
theorem rising_del {l : List (Int × α)} (h : Rising l) (k : Int) : Rising (delL l k) := h.filter _
theorem rising_put {l : List (Int × α)} (h : Rising l) (k : Int) (v : α) : Rising (putL l k v) :=
  rising_insS (rising_del h k) fun p hp => by simpa [delL] using (List.mem_filter.1 hp).2
theorem length_insS (x : Int × α) : ∀ l : List (Int × α), (insS x l).length = l.length + 1
  | [] => rfl
  | y :: r => by
    unfold insS
    split
    · rfl
    · simp [length_insS x r]
theorem lk_insS (x : Int × α) (k : Int) : ∀ l : List (Int × α), (∀ p ∈ l, p.1 ≠ x.1) → lkL (insS x l) k = if x.1 = k then some x.2 else lkL l k
  | [], _ => by
    unfold insS lkL
    by_cases h : x.1 = k <;> simp [h]
  | y :: r, hne => by
    have ih := lk_insS x k r fun p hp => hne p (List.mem_cons_of_mem _ hp)
    have hy := hne y (List.mem_cons_self ..)
    unfold insS
    split
    · unfold lkL
      by_cases h : x.1 = k <;> simp [h]
    · unfold lkL at ih ⊢
      rw [List.find?_cons, List.find?_cons]
      by_cases h : y.1 = k
      · have : x.1 ≠ k := fun e => hy (h.trans e.symm)
        simp [h, this]
      · simp only [beq_eq_false_iff_ne.2 h]
        exact ih
theorem lk_del (l : List (Int × α)) (k j : Int) : lkL (delL l k) j = if j = k then none else lkL l j := by
  unfold lkL delL
  rw [List.find?_filter]
  by_cases h : j = k
  · subst h
    rw [if_pos rfl, Option.map_eq_none_iff, List.find?_eq_none]
    intro p _ hp
    simp at hp
  · rw [if_neg h]
    congr 1
    congr 1
    funext p
    by_cases e : p.1 = j
    · subst e; simp [h]
    · simp [e]
theorem lk_put (l : List (Int × α)) (k : Int) (v : α) (j : Int) : lkL (putL l k v) j = if j = k then some v else lkL l j := by
  unfold putL
  rw [lk_insS _ _ _ (fun p hp => by simpa [delL] using (List.mem_filter.1 hp).2), lk_del]
  by_cases h : j = k
  · simp [h]
  · rw [if_neg (Ne.symm h), if_neg h, if_neg h]
theorem lk_none {l : List (Int × α)} {k : Int} : lkL l k = none ↔ ∀ p ∈ l, p.1 ≠ k := by
  unfold lkL
  simp [List.find?_eq_none]
theorem lk_some_mem {l : List (Int × α)} {k : Int} {v : α} (h : lkL l k = some v) : (k, v) ∈ l := by
  unfold lkL at h
  obtain ⟨p, hp, rfl⟩ := Option.map_eq_some_iff.1 h
  have h1 := List.mem_of_find?_eq_some hp
  have h2 := List.find?_some hp
  simp at h2
  subst h2
  exact h1
theorem lk_of_mem {l : List (Int × α)} (hr : Rising l) {k : Int} {v : α} (h : (k, v) ∈ l) : lkL l k = some v := by
  induction l with
  | nil => cases h
  | cons y r ih =>
    obtain ⟨h1, h2⟩ := List.pairwise_cons.1 hr
    unfold lkL
    rw [List.find?_cons]
    rcases List.mem_cons.1 h with rfl | h
    · simp
    · have := h1 _ h
      have e : (y.1 == k) = false := by simp at this ⊢; omega
      rw [e]
      exact ih h2 h
theorem del_of_none {l : List (Int × α)} {k : Int} (h : lkL l k = none) : delL l k = l := by
  unfold delL
  rw [List.filter_eq_self]
  intro p hp
  simpa using lk_none.1 h p hp
end

/-! ### In memory -/
def RV : Value → Option (DataW Value × List MemPlace) := fun v => some (.held v, [])
def toD (l : List (Int × Value)) : DataW Value := .map (l.map fun p => (.int .i64 p.1, .held p.2))
def I64 (k : Int) : Prop := (Lit.int .i64 k).wf = true

/-- Block b is a map with int keys (their type: K): the pairs l, by rising keys. -/
structure IMap (P : Program) (K : TypeId) (w : World) (b : Nat) (l : List (Int × Value)) : Prop where
  rising : Rising l
  owns : w.ownsMap P K RV b l.length (toD l)

section
variable {P : Program} {K T E : TypeId} {w : World} {b : Nat} {l : List (Int × Value)}

theorem IMap.made (P : Program) (K : TypeId) (w : World) : IMap P K (w.alloc (.map #[] 0)) w.heap.size [] := ⟨List.Pairwise.nil, World.ownsMap_made w P K RV⟩
theorem IMap.lt (h : IMap P K w b l) : b < w.heap.size := h.owns.lt
theorem IMap.mod {S : Nat → Prop} {w' : World} (h : IMap P K w b l) (hm : Mod S w w') (hS : ¬ S b) : IMap P K w' b l := by
  refine ⟨h.rising, ?_⟩
  have hlt := h.lt
  obtain ⟨es, clock, hb, r⟩ := h.owns
  exact ⟨es, clock, (hm.block b hlt hS).trans hb, r⟩
theorem IMap.below {B : Nat} {w' : World} (h : IMap P K w b l) (hm : Below B w w') (hS : b < B) : IMap P K w' b l := by
  refine ⟨h.rising, ?_⟩
  obtain ⟨es, clock, hb, r⟩ := h.owns
  exact ⟨es, clock, (hm.block b hS).trans hb, r⟩
theorem IMap.alloc (h : IMap P K w b l) (o : Obj) : IMap P K (w.alloc o) b l := ⟨h.rising, h.owns.alloc o⟩
theorem IMap.drewN (h : IMap P K w b l) (n : Nat) : IMap P K (w.drewN n) b l := ⟨h.rising, h.owns⟩
theorem IMap.setCell (h : IMap P K w b l) {a : Addr} (ha : b ≠ a.block) (u : Value) : IMap P K (w.setCell a u) b l := ⟨h.rising, h.owns.setCell ha u⟩

theorem find_toD (k : Int) : ∀ l : List (Int × Value), (l.map fun p => ((Lit.int .i64 p.1, DataW.held p.2) : Lit × DataW Value)).find? (fun p => p.1.sameKey (.int .i64 k)) = (l.find? fun p => p.1 == k).map fun p => (.int .i64 p.1, .held p.2)
  | [] => rfl
  | y :: r => by
    rw [List.map_cons, List.find?_cons, List.find?_cons, find_toD k r]
    have e : Lit.sameKey (.int .i64 y.1) (.int .i64 k) = (y.1 == k) := by
      simp [Lit.sameKey]
      by_cases h : y.1 = k <;> simp [h]
    simp only [e]
    cases (y.1 == k) <;> rfl
theorem atKey_toD (l : List (Int × Value)) (k : Int) (z : Value) : (toD l).atKey (.int .i64 k) (.held z) = .held ((lkL l k).getD z) := by
  unfold toD DataW.atKey lkL
  simp only [find_toD]
  cases l.find? fun p => p.1 == k <;> rfl
theorem has_toD (l : List (Int × Value)) (k : Int) : Maps.has (toD l) (.int .i64 k) = (lkL l k).isSome := by
  unfold toD Maps.has lkL
  dsimp only
  rw [List.any_map, Option.isSome_map, Bool.eq_iff_iff, List.find?_isSome, List.any_eq_true]
  constructor
  · rintro ⟨p, hp, h⟩
    exact ⟨p, hp, by simpa [Lit.sameKey] using h⟩
  · rintro ⟨p, hp, h⟩
    exact ⟨p, hp, by simpa [Lit.sameKey] using h⟩
theorem del_toD (l : List (Int × Value)) (k : Int) : (toD l).del (.int .i64 k) = toD (delL l k) := by
  unfold toD DataW.del delL
  dsimp only
  rw [List.filter_map]
  congr 2
  refine List.filter_congr fun p _ => ?_
  simp [Lit.sameKey]
theorem insert_toD (k : Int) (v : Value) : ∀ l : List (Int × Value), DataW.insert ((Lit.int .i64 k, DataW.held v) : Lit × DataW Value) (l.map fun p => (.int .i64 p.1, .held p.2)) = (insS (k, v) l).map fun p => (.int .i64 p.1, .held p.2)
  | [] => rfl
  | y :: r => by
    rw [List.map_cons]
    unfold DataW.insert insS
    have e : Lit.before (.int .i64 k) (.int .i64 y.1) = decide (k < y.1) := rfl
    simp only [e]
    by_cases h : k < y.1
    · simp [h]
    · simp only [h, decide_false, if_false, Bool.false_eq_true, List.map_cons, insert_toD k v r]
theorem put_toD (l : List (Int × Value)) (k : Int) (v : Value) : (toD l).put (.int .i64 k) (.held v) = toD (putL l k v) := by
  have e := del_toD l k
  unfold toD DataW.del at e
  simp only [DataW.map.injEq] at e
  unfold toD DataW.put putL
  simp only [e, insert_toD]

theorem key_int (hK : P.underlying K = some (.int .i64)) {k : Int} (hk : I64 k) : keyOf P K (.int .i64 k) = some (.int .i64 k) := Maps.keyOf_int_mk hK hk

/-- 'm[k]'. -/
theorem IMap.look (h : IMap P K w b l) (hK : P.underlying K = some (.int .i64)) (hT : P.underlying T = some (.map K E)) {z : Value} (hz : (zeroValue E).run P w = .ok z w) {k : Int} (hk : I64 k) :
    (Instr.lookup T (.map (some b)) (.int .i64 k) false).run P w = .ok ((lkL l k).getD z) w := by
  obtain ⟨v, ps, hrun, hv⟩ := h.owns.lookup (Maps.int_keyed hK) hT hz (zd := .held z) (zp := []) rfl (key_int hK hk)
  rw [atKey_toD] at hv
  simp only [RV, Option.some.injEq, Prod.mk.injEq, DataW.held.injEq] at hv
  rw [hrun, hv.1]
/-- 'v, ok := m[k]'. -/
theorem IMap.lookOk (h : IMap P K w b l) (hK : P.underlying K = some (.int .i64)) (hT : P.underlying T = some (.map K E)) {z : Value} (hz : (zeroValue E).run P w = .ok z w) {k : Int} (hk : I64 k) :
    (Instr.lookup T (.map (some b)) (.int .i64 k) true).run P w = .ok (.tuple #[(lkL l k).getD z, .bool (lkL l k).isSome]) w := by
  obtain ⟨v, ps, hrun, hv⟩ := h.owns.look_ok (Maps.int_keyed hK) hT hz (zd := .held z) (zp := []) rfl (key_int hK hk)
  rw [atKey_toD] at hv
  simp only [RV, Option.some.injEq, Prod.mk.injEq, DataW.held.injEq] at hv
  rw [hrun, hv.1, has_toD]
/-- 'm[k] = v'. -/
theorem IMap.put (h : IMap P K w b l) (hK : P.underlying K = some (.int .i64)) (hT : P.underlying T = some (.map K E)) (hn : l.length < maxLen) {k : Int} (hk : I64 k) (v : Value) :
    ∃ w', (Instr.mapUpdate T (.map (some b)) (.int .i64 k) v).run P w = .ok () w' ∧ IMap P K w' b (putL l k v) ∧ Mod (· = b) w w' ∧ w'.heap.size = w.heap.size := by
  obtain ⟨w', hrun, ho, hturn⟩ := h.owns.store (Maps.int_keyed hK) hT hn (key_int hK hk) (val := v) (d := .held v) (ps := []) rfl
  refine ⟨w', hrun, ⟨rising_put h.rising k v, ?_⟩, ?_, ?_⟩
  · rw [put_toD] at ho
    obtain ⟨es, clock, hb, F, hs, hD⟩ := ho
    refine ⟨es, clock, hb, F, ?_, hD⟩
    have e := congrArg Maps.size hD
    simp only [toD, Maps.size, length_sorted, List.length_map, Array.length_toList] at e
    omega
  · have g := hturn.grown
    exact ⟨g.os, g.tape, g.output, g.size, fun k hk hs => g.block k hk (fun e => hs (by simpa using e))⟩
  · obtain ⟨es, clock, es', clock', hb, rfl⟩ := hturn
    simp [ChangeMaps.setBlock]
/-- 'delete(m, k)'. -/
theorem IMap.del (h : IMap P K w b l) (hK : P.underlying K = some (.int .i64)) (hT : P.underlying T = some (.map K E)) (ty : TypeId) {k : Int} (hk : I64 k) :
    ∃ w', (Builtin.delete_ #[T, K] ty #[.map (some b), .int .i64 k]).run P w = .ok (.tuple #[]) w' ∧ IMap P K w' b (delL l k) ∧ Mod (· = b) w w' ∧ w'.heap.size = w.heap.size := by
  obtain ⟨w', hrun, ho, hturn⟩ := h.owns.drop (Maps.int_keyed hK) hT (key_int hK hk) ty
  refine ⟨w', hrun, ⟨rising_del h.rising k, ?_⟩, ?_, ?_⟩
  · rw [del_toD] at ho
    obtain ⟨es, clock, hb, F, hs, hD⟩ := ho
    refine ⟨es, clock, hb, F, ?_, hD⟩
    have e := congrArg Maps.size hD
    simp only [toD, Maps.size, length_sorted, List.length_map, Array.length_toList] at e
    omega
  · have g := hturn.grown
    exact ⟨g.os, g.tape, g.output, g.size, fun k hk hs => g.block k hk (fun e => hs (by simpa using e))⟩
  · obtain ⟨es, clock, es', clock', hb, rfl⟩ := hturn
    simp [ChangeMaps.setBlock]
/-- 'len(m)'. -/
theorem IMap.len (h : IMap P K w b l) (hT : P.underlying T = some (.map K E)) (ty : TypeId) : (Builtin.len_ #[T] ty #[.map (some b)]).run P w = .ok (.int .i64 l.length) w := by
  rw [h.owns.len hT ty]
  simp [toD, Maps.size]
end
end Go.Proofs.YtjmfhcliggjdgaaDoor

/- Slices of structs of K cells: what an index reads, what a part of one is; no condition. -/
namespace Go.Proofs.YtjmfhcliggjdgaaDoor
open Go Go.RowKit

theorem Mod.set1 {b : Nat} {w w' : World} (h : Mod (· = b) w w') (j : Nat) (u : Value) : Mod (· = b) w (w'.setCell ⟨b, j, none⟩ u) := h.setCell (p := ⟨b, j, none⟩) (.inl rfl) u
/-- Of a slice of n elements of K cells each: where its cells are. -/
def Els (w : World) (a : Option Addr) (K n : Nat) (xs : List Value) : Prop :=
  ∀ i, i < n → ∃ X, a = some X ∧ (∀ u, xs[i * K]? = some u → w.cell? (X.add (i * K)) = some u) ∧ ∀ j u, xs[i * K + j]? = some u → j < K → w.cell? ⟨(X.add (i * K)).block, (X.add (i * K)).off + j, none⟩ = some u
theorem Els.mod {S : Nat → Prop} {w w' : World} {a : Option Addr} {K n : Nat} {xs : List Value} (h : Els w a K n xs) (hm : Mod S w w') (hS : ∀ X, a = some X → ¬ S X.block) : Els w' a K n xs := by
  intro i hi
  obtain ⟨X, rfl, h1, h2⟩ := h i hi
  exact ⟨X, rfl, fun u hu => hm.cell (h1 u hu) (by rw [Addr.add_block]; exact hS X rfl), fun j u hu hj => hm.cell (h2 j u hu hj) (by show ¬ S (X.add (i * K)).block; rw [Addr.add_block]; exact hS X rfl)⟩
theorem Els.new {w w' : World} {a : Option Addr} {K n : Nat} {xs : List Value} (h : Els w a K n xs) (hm : Mod (fun _ => False) w w') : Els w' a K n xs := h.mod hm fun _ _ h => h
theorem add_g (g n : Nat) : (⟨g, 0, none⟩ : Addr).add n = ⟨g, n, none⟩ := by
  cases n with
  | zero => rfl
  | succ n => simp [Addr.add]
theorem _root_.Go.World.ownsRow.els {w : World} {base : Nat} {e : TypeId} {K : Nat} {v : Value} {n : Nat} {xs : List Value} (h : w.ownsRow base e K v n xs) : ∃ a cap, v = .slice a n cap ∧ n ≤ cap ∧ Els w a K n xs ∧ ∀ X, a = some X → base ≤ X.block ∧ X.block < w.heap.size := by
  have hlt := h.lt
  rcases h.2 with ⟨rfl, rfl⟩ | ⟨g, cap, cur, rfl, hg, hh, h1, h2, h3, h4⟩
  · exact ⟨none, 0, rfl, Nat.le_refl _, fun i hi => absurd hi (Nat.not_lt_zero _), fun X h => by cases h⟩
  · refine ⟨_, cap, rfl, h1, fun i hi => ⟨_, rfl, fun u hu => ?_, fun j u hu hj => ?_⟩, fun X hX => ?_⟩
    · have hl := (List.getElem?_eq_some_iff.1 hu).1
      have e1 := h.cellAt (i * K) (by rw [← h.1]; exact hl)
      rw [hu] at e1
      rw [add_g]
      exact e1
    · have hl := (List.getElem?_eq_some_iff.1 hu).1
      have e1 := h.cellAt (i * K + j) (by rw [← h.1]; exact hl)
      rw [hu] at e1
      rw [add_g]
      exact e1
    · cases hX
      exact hlt g rfl
/-- A part of a slice that Sl knows. -/
theorem Sl.part {w : World} {X : Addr} {K n lo hi c c' : Nat} {xs : List Value} (h : Sl w (.slice (some X) n c) K n xs) (h1 : lo ≤ hi) (h2 : hi ≤ n) : Sl w (.slice (some (X.add (lo * K))) (hi - lo) c') K (hi - lo) ((xs.drop (lo * K)).take ((hi - lo) * K)) := by
  rcases h with ⟨h3, _⟩ | ⟨x, d, hv, h3, h4⟩
  · cases h3
  · cases hv
    have hb : hi * K ≤ n * K := Nat.mul_le_mul_right K h2
    have hs : (hi - lo) * K = hi * K - lo * K := Nat.sub_mul _ _ _
    have hlo : lo * K ≤ hi * K := Nat.mul_le_mul_right K h1
    refine .inr ⟨_, c', rfl, ?_, fun j u hj => ?_⟩
    · rw [List.length_take, List.length_drop, h3]; omega
    · rw [List.getElem?_take] at hj
      split at hj
      · rw [List.getElem?_drop] at hj
        rw [Go.Deep.add_add]
        exact h4 _ _ hj
      · cases hj
/-- 'sv[lo:]' as the machine yields it. -/
theorem Sl.tail {w : World} {X : Addr} {K n lo c : Nat} {xs : List Value} (h : Sl w (.slice (some X) n c) K n xs) (h1 : lo ≤ n) (h2 : n ≤ c) : Sl w (.slice (if c = lo then some X else some (X.add (lo * K))) (n - lo) (c - lo)) K (n - lo) (xs.drop (lo * K)) := by
  have hl := h.len
  by_cases e : c = lo
  · have hn : n = lo := by omega
    subst hn
    rw [if_pos e, Nat.sub_self]
    refine .inr ⟨X, _, rfl, ?_, fun j u hj => ?_⟩
    · rw [List.length_drop, hl]; simp
    · rw [List.drop_eq_nil_of_le (by omega)] at hj
      simp at hj
  · rw [if_neg e]
    have h3 := h.part (lo := lo) (hi := n) (c' := c - lo) h1 (Nat.le_refl _)
    rw [List.take_of_length_le (by rw [List.length_drop, hl, Nat.sub_mul]; omega)] at h3
    exact h3
theorem Sl.tailN {w : World} {X : Addr} {K n lo c : Nat} {xs : List Value} (h : Sl w (.slice (some X) n c) K n xs) (h1 : lo < n) (h2 : n ≤ c) : Sl w (.slice (some (X.add (lo * K))) (n - lo) (c - lo)) K (n - lo) (xs.drop (lo * K)) := by
  have := h.tail (Nat.le_of_lt h1) h2
  rwa [if_neg (by omega)] at this
theorem Sl.head {w : World} {X : Addr} {K n hi c : Nat} {xs : List Value} (h : Sl w (.slice (some X) n c) K n xs) (h1 : hi ≤ n) : Sl w (.slice (some X) hi c) K hi (xs.take (hi * K)) := by
  have h3 := h.part (lo := 0) (hi := hi) (c' := c) (Nat.zero_le _) h1
  simpa [Addr.add] using h3
/-- A struct that was just boxed, as a slice of one. -/
theorem sl_new (w : World) (cs : Array Value) (e : TypeId) : Sl (w.alloc (.cells cs e)) (.slice (some ⟨w.heap.size, 0, none⟩) 1 1) cs.size 1 cs.toList := by
  refine .inr ⟨_, _, rfl, by simp, fun j u hj => ?_⟩
  rw [add_g]
  exact ((Blk.new w cs e).cell j).trans (by simpa using hj)
/-- A slice of no elements, that is not nil. -/
theorem owns_empty (w : World) (base : Nat) (e : TypeId) (K : Nat) (h : base ≤ w.heap.size) : (w.alloc (.cells #[] e)).ownsRow base e K (.slice (some ⟨w.heap.size, 0, none⟩) 0 0) 0 [] := by
  refine ⟨by simp, .inr ⟨w.heap.size, 0, #[], rfl, h, ?_, Nat.le_refl _, ?_⟩⟩
  · exact heap_alloc_new w _
  · simp
end Go.Proofs.YtjmfhcliggjdgaaDoor

/- 'append' of one struct of several cells to a slice of the call's own; no condition. -/
namespace Go.Proofs.YtjmfhcliggjdgaaDoor
open Go Go.RowKit

section
variable {P : Program}
/-- 'append(v, u)', u a struct of the cells cs, v of the call's own (all its rows are new, seen from world W). -/
theorem appK {S : Nat → Prop} {W w0 : World} {ops : Array Oper} {rest : List Oper} {o : Oper} {a : Act} {Q : Exit → Act → World → Prop} (hgd : o.guard = none) (s x : Operand) (t e : TypeId) (size : Nat)
    (ho : o.op = .call { callee := .builtin .append, args := #[s, x], argTypes := #[t, t] }) (ht : P.underlying t = some (.slice e)) {z : Value} {bytes : Nat} (hi : (P.info? e).map (fun i => (i.zero, i.size, i.bytes)) = some (some z, size, bytes)) (hzs : z.cells.size = size) (h0 : 0 < size)
    (v : Value) (n : Nat) (xs : List Value) (cs : Array Value) (hcs : cs.size = size) (hW : Mod S W w0) (hown : w0.ownsRow W.heap.size e size v n xs) (hs : a.eval s = v) (hx : a.eval x = .slice (some ⟨w0.heap.size, 0, none⟩) 1 1)
    (h1 : ∀ u ∈ cs.toList, u.oneCell' = true) (hb0 : 0 < bytes) (hbytes : (n + 1) * bytes ≤ 140737488355328)
    (h : ∀ v' w', w'.ownsRow W.heap.size e size v' (n + 1) (xs ++ cs.toList) → Mod S W w' → Mod (fun i => W.heap.size ≤ i) w0 w' → wpList P ops Q rest (a.put o.dst v') w') : wpList P ops Q (o :: rest) a (w0.alloc (.cells cs e)) := by
  obtain ⟨i0, hi, hz0, hz1, hz2⟩ := info_parts hi
  have h63 : n + 1 ≤ maxLen := by
    have : n + 1 ≤ (n + 1) * bytes := Nat.le_mul_of_pos_right _ hb0
    unfold maxLen; omega
  have hsz := hW.size
  refine wpList_append_own _ hgd s x t ho W.heap.size e i0 z size bytes ht hi hz0 hz1 hz2 hzs h0 v n xs hs (hown.alloc _) ⟨w0.heap.size, 0, none⟩ 1 1 cs.toList hx (by simp [hcs]) (fun j y hj => ?_) h1 h63 hbytes (by simp; omega) fun v' w' h2 h3 _ => h v' w' h2 ?_ (((Mod.refl _ w0).alloc _).grown h3 fun k hk => .inl (hown.lt k hk).1)
  · have hc : cs[j]? = some y := by simpa using hj
    have hb := ((Blk.new w0 cs e).cell j).trans hc
    cases j with
    | zero => exact hb
    | succ j => simpa [Addr.add] using hb
  · exact ((hW.alloc _).grown h3 fun k hk => .inr (hown.lt k hk).1)
/-- 'append(v, sv...)', v of the call's own from block 'base' on. -/
theorem appS {w : World} {base : Nat} {ops : Array Oper} {rest : List Oper} {o : Oper} {a : Act} {Q : Exit → Act → World → Prop} (hgd : o.guard = none) (s x : Operand) (t e : TypeId) (size : Nat)
    (ho : o.op = .call { callee := .builtin .append, args := #[s, x], argTypes := #[t, t] }) (ht : P.underlying t = some (.slice e)) {z : Value} {bytes : Nat} (hi : (P.info? e).map (fun i => (i.zero, i.size, i.bytes)) = some (some z, size, bytes)) (hzs : z.cells.size = size) (h0 : 0 < size)
    (v : Value) (n : Nat) (xs : List Value) (sv : Value) (m : Nat) (news : List Value) (hbase : base ≤ w.heap.size) (hown : w.ownsRow base e size v n xs) (hs : a.eval s = v) (hx : a.eval x = sv) (hnews : Sl w sv size m news)
    (h1 : ∀ u ∈ news, u.oneCell' = true) (hb0 : 0 < bytes) (hbytes : (n + m) * bytes ≤ 140737488355328)
    (h : ∀ v' w', w'.ownsRow base e size v' (n + m) (xs ++ news) → Mod (fun i => base ≤ i) w w' → wpList P ops Q rest (a.put o.dst v') w') : wpList P ops Q (o :: rest) a w := by
  obtain ⟨i0, hi, hz0, hz1, hz2⟩ := info_parts hi
  exact wpList_append_sl hgd s x t ho base e i0 z size bytes ht hi hz0 hz1 hz2 hzs h0 v n xs hs hown sv m news hx hnews h1 hbytes hb0 hbase fun v' w' h2 h3 => h v' w' h2 ((Mod.refl _ w).grown h3 fun k hk => .inl (hown.lt k hk).1)
end
end Go.Proofs.YtjmfhcliggjdgaaDoor
