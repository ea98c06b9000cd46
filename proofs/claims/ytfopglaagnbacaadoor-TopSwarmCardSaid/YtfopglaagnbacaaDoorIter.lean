/- The keys of a map, sorted: the kit's own contracts on iterators, laid at this program's numbers; conditions as each states them. -/
import Derived.Shelf.SlGeneric
import Derived.Shelf.SlIterI.Nil
import Derived.Shelf.SlIterI.Sorted
import Derived.Ground.GgzProg
import Derived.Test.YtfopglaagnbacaaDoorProg
import Derived.Test.YtfopglaagnbacaaDoorShelf
namespace Go.Proofs
open Go.Shelf
def Tryd.keys38_ren : Go.Shelf.Ren := ⟨fun | 7 => 38 | 10 => 49 | n => n, fun | 23 => 73 | 26 => 3 | 3 => 28 | 28 => 90 | 0 => 0 | 27 => 89 | 33 => 46 | 4 => 4 | n => n, fun | n => n⟩
theorem Tryd.keys38 : Go.Proofs.SlLaysZI.n7 Tryd.prog Tryd.keys38_ren := {
  mixed := by kernel_rfl
  f7 := ⟨Tryd.f38.name, by decide, Tryd.func38.trans (congrArg some (by kernel_rfl))⟩
  f10 := ⟨Tryd.f49.name, by decide, Tryd.func49.trans (congrArg some (by kernel_rfl))⟩
  t0 := Tryd.underlying0
  a0 := Tryd.isAgg0
  z0 := Tryd.sizeOf0
  v0 := Tryd.zeroValue0
  t4 := Tryd.underlying4
  a4 := Tryd.isAgg4
  z4 := Tryd.sizeOf4
  v4 := Tryd.zeroValue4
  t23 := Tryd.underlying73
  a23 := Tryd.isAgg73
  z23 := Tryd.sizeOf73
  v23 := Tryd.zeroValue73
  t26 := Tryd.underlying3
  a26 := Tryd.isAgg3
  z26 := Tryd.sizeOf3
  v26 := Tryd.zeroValue3
  t27 := Tryd.underlying89
  a27 := Tryd.isAgg89
  z27 := Tryd.sizeOf89
  v27 := Tryd.zeroValue89
  t28 := Tryd.underlying90
  a28 := Tryd.isAgg90
  z28 := Tryd.sizeOf90
  v28 := Tryd.zeroValue90
  t33 := Tryd.underlying46
  a33 := Tryd.isAgg46
  z33 := Tryd.sizeOf46
  v33 := Tryd.zeroValue46 }
def Tryd.sorted37_ren : Go.Shelf.Ren := ⟨fun | 6 => 37 | 8 => 47 | 9 => 48 | 11 => 52 | 13 => 54 | 12 => 53 | 23 => 64 | 24 => 65 | 14 => 55 | 15 => 56 | 16 => 57 | 17 => 58 | 18 => 59 | 19 => 60 | 20 => 61 | 21 => 62 | 22 => 63 | 25 => 66 | 26 => 67 | 27 => 68 | 28 => 69 | 29 => 70 | 30 => 71 | 31 => 72 | n => n, fun | 26 => 3 | 28 => 90 | 24 => 31 | 0 => 0 | 3 => 3 | 37 => 33 | 48 => 114 | 50 => 38 | 4 => 4 | 40 => 107 | 39 => 106 | 45 => 111 | 5 => 5 | 9 => 9 | 51 => 115 | 55 => 118 | 57 => 120 | 58 => 121 | 33 => 46 | n => n, fun | n => n⟩
theorem Tryd.sorted37 : Go.Proofs.SlLaysZI.n6 Tryd.prog Tryd.sorted37_ren := {
  mixed := by kernel_rfl
  f6 := ⟨Tryd.f37.name, by decide, Tryd.func37.trans (congrArg some (by kernel_rfl))⟩
  f8 := ⟨Tryd.f47.name, by decide, Tryd.func47.trans (congrArg some (by kernel_rfl))⟩
  f11 := ⟨Tryd.f52.name, by decide, Tryd.func52.trans (congrArg some (by kernel_rfl))⟩
  t0 := Tryd.underlying0
  a0 := Tryd.isAgg0
  z0 := Tryd.sizeOf0
  v0 := Tryd.zeroValue0
  t24 := Tryd.underlying31
  a24 := Tryd.isAgg31
  z24 := Tryd.sizeOf31
  v24 := Tryd.zeroValue31
  t26 := Tryd.underlying3
  a26 := Tryd.isAgg3
  z26 := Tryd.sizeOf3
  v26 := Tryd.zeroValue3
  t28 := Tryd.underlying90
  a28 := Tryd.isAgg90
  z28 := Tryd.sizeOf90
  v28 := Tryd.zeroValue90
  i26 := by kernel_rfl }
def Tryd.keys42_ren : Go.Shelf.Ren := ⟨fun | 7 => 42 | 10 => 51 | n => n, fun | 23 => 77 | 26 => 3 | 3 => 45 | 28 => 90 | 0 => 0 | 27 => 89 | 33 => 46 | 4 => 4 | n => n, fun | n => n⟩
theorem Tryd.keys42 : Go.Proofs.SlLaysZI.n7 Tryd.prog Tryd.keys42_ren := {
  mixed := by kernel_rfl
  f7 := ⟨Tryd.f42.name, by decide, Tryd.func42.trans (congrArg some (by kernel_rfl))⟩
  f10 := ⟨Tryd.f51.name, by decide, Tryd.func51.trans (congrArg some (by kernel_rfl))⟩
  t0 := Tryd.underlying0
  a0 := Tryd.isAgg0
  z0 := Tryd.sizeOf0
  v0 := Tryd.zeroValue0
  t4 := Tryd.underlying4
  a4 := Tryd.isAgg4
  z4 := Tryd.sizeOf4
  v4 := Tryd.zeroValue4
  t23 := Tryd.underlying77
  a23 := Tryd.isAgg77
  z23 := Tryd.sizeOf77
  v23 := Tryd.zeroValue77
  t26 := Tryd.underlying3
  a26 := Tryd.isAgg3
  z26 := Tryd.sizeOf3
  v26 := Tryd.zeroValue3
  t27 := Tryd.underlying89
  a27 := Tryd.isAgg89
  z27 := Tryd.sizeOf89
  v27 := Tryd.zeroValue89
  t28 := Tryd.underlying90
  a28 := Tryd.isAgg90
  z28 := Tryd.sizeOf90
  v28 := Tryd.zeroValue90
  t33 := Tryd.underlying46
  a33 := Tryd.isAgg46
  z33 := Tryd.sizeOf46
  v33 := Tryd.zeroValue46 }
open Go.RowKit Go.Maps Go.Sort Go.Shelf in
theorem Tryd.sorts37 (m : Nat) : AnyZI.SortsIn Tryd.prog Tryd.sorted37_ren Fence.wide m :=
  ⟨fun blk off cap ss W hH hblk hsz => callsIn_wide.2 (Tryd.slices_Sort_int blk off cap ss W hH hblk hsz), fun p cap W => callsIn_wide.2 (Tryd.slices_Sort_int_none p cap W)⟩
open Go.RowKit Go.Maps Go.Sort Go.Shelf in
theorem Tryd.maps_Keys_38 (mb : Option Nat) (W : World) : Calls Tryd.prog 38 #[.map mb] W fun e w' => e = .returned (.func (.func 49) #[] #[.pointer (some ⟨W.heap.size, 0, none⟩)]) ∧ w' = W.alloc (.cells #[.map mb] 73) :=
  callsIn_wide.1 (AnyZI.keys_in Tryd.keys38 Fence.wide 5 trivial rfl mb W)
set_option maxHeartbeats 1000000 in
open Go.RowKit Go.Maps Go.Sort Go.Shelf in
theorem Tryd.slices_Sorted_keys_38 {H : Type} (b nn : Nat) (D0 : DataW H) (R : Value → Option (DataW H × List MemPlace)) (w : World) (hown : w.ownsMap Tryd.prog 3 R b nn D0) (hmax : Maps.size D0 ≤ maxLen) (hbytes : Maps.size D0 * 8 ≤ 140737488355328) :
    Calls Tryd.prog 37 #[.func (.func 49) #[] #[.pointer (some ⟨w.heap.size, 0, none⟩)]] (w.alloc (.cells #[.map (some b)] 73)) fun e w' => ∃ (v : Value) (ss : List Int), e = .returned v ∧ ss.Perm (intKeys D0) ∧
      w'.ownsRow (w.alloc (.cells #[.map (some b)] 73)).heap.size 3 1 v ss.length ((ss.mergeSort (fun x y => decide (x ≤ y))).map (Value.int .i64)) ∧ Below (w.alloc (.cells #[.map (some b)] 73)).heap.size (w.alloc (.cells #[.map (some b)] 73)) w' := by
  have hbl := hown.lt
  have hseq : SeqGives Fence.wide 2 Tryd.prog 49 #[.pointer (some ⟨w.heap.size, 0, none⟩)] encZ (fun ss => ss.Perm (intKeys D0)) (Maps.size D0) (w.alloc (.cells #[.map (some b)] 73)) :=
    AnyZI.keys_gives (ρ := Tryd.keys38_ren) { Tryd.keys38 with } Fence.wide _ trivial rfl (by omega) w.heap.size b nn D0 _ (by simp) (by simp) (by
      obtain ⟨es, clock, hb, Ft, hs, hD⟩ := hown
      exact ⟨es, clock, (Below.heap_alloc _ _ b hbl).trans hb, Ft, hs, hD⟩)
  refine (callsIn_wide.1 (AnyZI.sorted_in Tryd.sorted37 Fence.wide 5 trivial trivial trivial trivial rfl (by omega) (Tryd.sorts37 _) (enters_of Tryd.func48 (by kernel_rfl) rfl) 49 #[.pointer (some ⟨w.heap.size, 0, none⟩)] trivial (enters_of Tryd.func49 (by kernel_rfl) rfl) _ _ hmax hbytes _ hseq)).mono ?_
  rintro e w' ⟨v, ss, h1, h2, h3, _, h5⟩
  exact ⟨v, ss, h1, h2, h3, h5⟩
open Go.RowKit Go.Maps Go.Sort Go.Shelf in
theorem Tryd.maps_Keys_42 (mb : Option Nat) (W : World) : Calls Tryd.prog 42 #[.map mb] W fun e w' => e = .returned (.func (.func 51) #[] #[.pointer (some ⟨W.heap.size, 0, none⟩)]) ∧ w' = W.alloc (.cells #[.map mb] 77) :=
  callsIn_wide.1 (AnyZI.keys_in Tryd.keys42 Fence.wide 5 trivial rfl mb W)
set_option maxHeartbeats 1000000 in
open Go.RowKit Go.Maps Go.Sort Go.Shelf in
theorem Tryd.slices_Sorted_keys_42 {H : Type} (b nn : Nat) (D0 : DataW H) (R : Value → Option (DataW H × List MemPlace)) (w : World) (hown : w.ownsMap Tryd.prog 3 R b nn D0) (hmax : Maps.size D0 ≤ maxLen) (hbytes : Maps.size D0 * 8 ≤ 140737488355328) :
    Calls Tryd.prog 37 #[.func (.func 51) #[] #[.pointer (some ⟨w.heap.size, 0, none⟩)]] (w.alloc (.cells #[.map (some b)] 77)) fun e w' => ∃ (v : Value) (ss : List Int), e = .returned v ∧ ss.Perm (intKeys D0) ∧
      w'.ownsRow (w.alloc (.cells #[.map (some b)] 77)).heap.size 3 1 v ss.length ((ss.mergeSort (fun x y => decide (x ≤ y))).map (Value.int .i64)) ∧ Below (w.alloc (.cells #[.map (some b)] 77)).heap.size (w.alloc (.cells #[.map (some b)] 77)) w' := by
  have hbl := hown.lt
  have hseq : SeqGives Fence.wide 2 Tryd.prog 51 #[.pointer (some ⟨w.heap.size, 0, none⟩)] encZ (fun ss => ss.Perm (intKeys D0)) (Maps.size D0) (w.alloc (.cells #[.map (some b)] 77)) :=
    AnyZI.keys_gives (ρ := Tryd.keys42_ren) { Tryd.keys42 with } Fence.wide _ trivial rfl (by omega) w.heap.size b nn D0 _ (by simp) (by simp) (by
      obtain ⟨es, clock, hb, Ft, hs, hD⟩ := hown
      exact ⟨es, clock, (Below.heap_alloc _ _ b hbl).trans hb, Ft, hs, hD⟩)
  refine (callsIn_wide.1 (AnyZI.sorted_in Tryd.sorted37 Fence.wide 5 trivial trivial trivial trivial rfl (by omega) (Tryd.sorts37 _) (enters_of Tryd.func48 (by kernel_rfl) rfl) 51 #[.pointer (some ⟨w.heap.size, 0, none⟩)] trivial (enters_of Tryd.func51 (by kernel_rfl) rfl) _ _ hmax hbytes _ hseq)).mono ?_
  rintro e w' ⟨v, ss, h1, h2, h3, _, h5⟩
  exact ⟨v, ss, h1, h2, h3, h5⟩
end Go.Proofs
