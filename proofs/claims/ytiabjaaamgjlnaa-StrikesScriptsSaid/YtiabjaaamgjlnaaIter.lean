/- The keys of a map, sorted: the kit's own contracts on iterators, laid at this program's numbers; conditions as each states them. -/
import Derived.Shelf.SlGeneric
import Derived.Shelf.SlIterI.Nil
import Derived.Shelf.SlIterI.Sorted
import Derived.Ground.GgzProg
import Derived.Test.YtiabjaaamgjlnaaProg
import Derived.Test.YtiabjaaamgjlnaaShelf
namespace Go.Proofs
open Go.Shelf
def Try.keys26_ren : Go.Shelf.Ren := ⟨fun | 7 => 26 | 10 => 40 | n => n, fun | 23 => 52 | 26 => 3 | 3 => 56 | 28 => 61 | 0 => 0 | 27 => 60 | 33 => 77 | 4 => 4 | n => n, fun | n => n⟩
theorem Try.keys26 : Go.Proofs.SlLaysZI.n7 Try.prog Try.keys26_ren := {
  mixed := by kernel_rfl
  f7 := ⟨Try.f26.name, by decide, Try.func26.trans (congrArg some (by kernel_rfl))⟩
  f10 := ⟨Try.f40.name, by decide, Try.func40.trans (congrArg some (by kernel_rfl))⟩
  t0 := Try.underlying0
  a0 := Try.isAgg0
  z0 := Try.sizeOf0
  v0 := Try.zeroValue0
  t4 := Try.underlying4
  a4 := Try.isAgg4
  z4 := Try.sizeOf4
  v4 := Try.zeroValue4
  t23 := Try.underlying52
  a23 := Try.isAgg52
  z23 := Try.sizeOf52
  v23 := Try.zeroValue52
  t26 := Try.underlying3
  a26 := Try.isAgg3
  z26 := Try.sizeOf3
  v26 := Try.zeroValue3
  t27 := Try.underlying60
  a27 := Try.isAgg60
  z27 := Try.sizeOf60
  v27 := Try.zeroValue60
  t28 := Try.underlying61
  a28 := Try.isAgg61
  z28 := Try.sizeOf61
  v28 := Try.zeroValue61
  t33 := Try.underlying77
  a33 := Try.isAgg77
  z33 := Try.sizeOf77
  v33 := Try.zeroValue77 }
def Try.sorted25_ren : Go.Shelf.Ren := ⟨fun | 6 => 25 | 8 => 38 | 9 => 39 | 11 => 48 | 13 => 50 | 12 => 49 | 23 => 60 | 24 => 61 | 14 => 51 | 15 => 52 | 16 => 53 | 17 => 54 | 18 => 55 | 19 => 56 | 20 => 57 | 21 => 58 | 22 => 59 | 25 => 62 | 26 => 63 | 27 => 64 | 28 => 65 | 29 => 66 | 30 => 47 | 31 => 67 | n => n, fun | 26 => 3 | 28 => 61 | 24 => 34 | 0 => 0 | 3 => 3 | 37 => 84 | 48 => 94 | 50 => 96 | 4 => 4 | 40 => 87 | 39 => 86 | 45 => 91 | 5 => 5 | 9 => 9 | 51 => 97 | 55 => 101 | 57 => 103 | 58 => 104 | 33 => 77 | n => n, fun | n => n⟩
theorem Try.sorted25 : Go.Proofs.SlLaysZI.n6 Try.prog Try.sorted25_ren := {
  mixed := by kernel_rfl
  f6 := ⟨Try.f25.name, by decide, Try.func25.trans (congrArg some (by kernel_rfl))⟩
  f8 := ⟨Try.f38.name, by decide, Try.func38.trans (congrArg some (by kernel_rfl))⟩
  f11 := ⟨Try.f48.name, by decide, Try.func48.trans (congrArg some (by kernel_rfl))⟩
  t0 := Try.underlying0
  a0 := Try.isAgg0
  z0 := Try.sizeOf0
  v0 := Try.zeroValue0
  t24 := Try.underlying34
  a24 := Try.isAgg34
  z24 := Try.sizeOf34
  v24 := Try.zeroValue34
  t26 := Try.underlying3
  a26 := Try.isAgg3
  z26 := Try.sizeOf3
  v26 := Try.zeroValue3
  t28 := Try.underlying61
  a28 := Try.isAgg61
  z28 := Try.sizeOf61
  v28 := Try.zeroValue61
  i26 := by kernel_rfl }
open Go.RowKit Go.Maps Go.Sort Go.Shelf in
theorem Try.sorts25 (m : Nat) : AnyZI.SortsIn Try.prog Try.sorted25_ren Fence.wide m :=
  ⟨fun blk off cap ss W hH hblk hsz => callsIn_wide.2 (Try.slices_Sort_int blk off cap ss W hH hblk hsz), fun p cap W => callsIn_wide.2 (Try.slices_Sort_int_none p cap W)⟩
open Go.RowKit Go.Maps Go.Sort Go.Shelf in
theorem Try.maps_Keys_26 (mb : Option Nat) (W : World) : Calls Try.prog 26 #[.map mb] W fun e w' => e = .returned (.func (.func 40) #[] #[.pointer (some ⟨W.heap.size, 0, none⟩)]) ∧ w' = W.alloc (.cells #[.map mb] 52) :=
  callsIn_wide.1 (AnyZI.keys_in Try.keys26 Fence.wide 5 trivial rfl mb W)
set_option maxHeartbeats 1000000 in
open Go.RowKit Go.Maps Go.Sort Go.Shelf in
theorem Try.slices_Sorted_keys_26 {H : Type} (b nn : Nat) (D0 : DataW H) (R : Value → Option (DataW H × List MemPlace)) (w : World) (hown : w.ownsMap Try.prog 3 R b nn D0) (hmax : Maps.size D0 ≤ maxLen) (hbytes : Maps.size D0 * 8 ≤ 140737488355328) :
    Calls Try.prog 25 #[.func (.func 40) #[] #[.pointer (some ⟨w.heap.size, 0, none⟩)]] (w.alloc (.cells #[.map (some b)] 52)) fun e w' => ∃ (v : Value) (ss : List Int), e = .returned v ∧ ss.Perm (intKeys D0) ∧
      w'.ownsRow (w.alloc (.cells #[.map (some b)] 52)).heap.size 3 1 v ss.length ((ss.mergeSort (fun x y => decide (x ≤ y))).map (Value.int .i64)) ∧ Below (w.alloc (.cells #[.map (some b)] 52)).heap.size (w.alloc (.cells #[.map (some b)] 52)) w' := by
  have hbl := hown.lt
  have hseq : SeqGives Fence.wide 2 Try.prog 40 #[.pointer (some ⟨w.heap.size, 0, none⟩)] encZ (fun ss => ss.Perm (intKeys D0)) (Maps.size D0) (w.alloc (.cells #[.map (some b)] 52)) :=
    AnyZI.keys_gives (ρ := Try.keys26_ren) { Try.keys26 with } Fence.wide _ trivial rfl (by omega) w.heap.size b nn D0 _ (by simp) (by simp) (by
      obtain ⟨es, clock, hb, Ft, hs, hD⟩ := hown
      exact ⟨es, clock, (Below.heap_alloc _ _ b hbl).trans hb, Ft, hs, hD⟩)
  refine (callsIn_wide.1 (AnyZI.sorted_in Try.sorted25 Fence.wide 5 trivial trivial trivial trivial rfl (by omega) (Try.sorts25 _) (enters_of Try.func39 (by kernel_rfl) rfl) 40 #[.pointer (some ⟨w.heap.size, 0, none⟩)] trivial (enters_of Try.func40 (by kernel_rfl) rfl) _ _ hmax hbytes _ hseq)).mono ?_
  rintro e w' ⟨v, ss, h1, h2, h3, _, h5⟩
  exact ⟨v, ss, h1, h2, h3, h5⟩
end Go.Proofs
