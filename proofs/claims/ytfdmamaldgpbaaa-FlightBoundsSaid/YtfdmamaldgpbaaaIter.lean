/- The keys of a map, sorted: the kit's own contracts on iterators, laid at this program's numbers; conditions as each states them. -/
import Derived.Shelf.SlGeneric
import Derived.Shelf.SlIterI.Nil
import Derived.Shelf.SlIterI.Sorted
import Derived.Ground.GgzProg
import Derived.Test.YtfdmamaldgpbaaaProg
import Derived.Test.YtfdmamaldgpbaaaShelf
namespace Go.Proofs
open Go.Shelf
def Try.keys29_ren : Go.Shelf.Ren := ⟨fun | 7 => 29 | 10 => 36 | n => n, fun | 23 => 47 | 26 => 3 | 3 => 41 | 28 => 62 | 0 => 0 | 27 => 61 | 33 => 58 | 4 => 4 | n => n, fun | n => n⟩
theorem Try.keys29 : Go.Proofs.SlLaysZI.n7 Try.prog Try.keys29_ren := {
  mixed := by kernel_rfl
  f7 := ⟨Try.f29.name, by decide, Try.func29.trans (congrArg some (by kernel_rfl))⟩
  f10 := ⟨Try.f36.name, by decide, Try.func36.trans (congrArg some (by kernel_rfl))⟩
  t0 := Try.underlying0
  a0 := Try.isAgg0
  z0 := Try.sizeOf0
  v0 := Try.zeroValue0
  t4 := Try.underlying4
  a4 := Try.isAgg4
  z4 := Try.sizeOf4
  v4 := Try.zeroValue4
  t23 := Try.underlying47
  a23 := Try.isAgg47
  z23 := Try.sizeOf47
  v23 := Try.zeroValue47
  t26 := Try.underlying3
  a26 := Try.isAgg3
  z26 := Try.sizeOf3
  v26 := Try.zeroValue3
  t27 := Try.underlying61
  a27 := Try.isAgg61
  z27 := Try.sizeOf61
  v27 := Try.zeroValue61
  t28 := Try.underlying62
  a28 := Try.isAgg62
  z28 := Try.sizeOf62
  v28 := Try.zeroValue62
  t33 := Try.underlying58
  a33 := Try.isAgg58
  z33 := Try.sizeOf58
  v33 := Try.zeroValue58 }
def Try.sorted28_ren : Go.Shelf.Ren := ⟨fun | 6 => 28 | 8 => 34 | 9 => 35 | 11 => 37 | 13 => 39 | 12 => 38 | 23 => 49 | 24 => 50 | 14 => 40 | 15 => 41 | 16 => 42 | 17 => 43 | 18 => 44 | 19 => 45 | 20 => 46 | 21 => 47 | 22 => 48 | 25 => 51 | 26 => 52 | 27 => 53 | 28 => 54 | 29 => 55 | 30 => 56 | 31 => 57 | n => n, fun | 26 => 3 | 28 => 62 | 24 => 59 | 0 => 0 | 3 => 3 | 37 => 70 | 48 => 81 | 50 => 83 | 4 => 4 | 40 => 73 | 39 => 72 | 45 => 78 | 5 => 5 | 9 => 9 | 51 => 84 | 55 => 88 | 57 => 90 | 58 => 91 | 33 => 58 | n => n, fun | n => n⟩
theorem Try.sorted28 : Go.Proofs.SlLaysZI.n6 Try.prog Try.sorted28_ren := {
  mixed := by kernel_rfl
  f6 := ⟨Try.f28.name, by decide, Try.func28.trans (congrArg some (by kernel_rfl))⟩
  f8 := ⟨Try.f34.name, by decide, Try.func34.trans (congrArg some (by kernel_rfl))⟩
  f11 := ⟨Try.f37.name, by decide, Try.func37.trans (congrArg some (by kernel_rfl))⟩
  t0 := Try.underlying0
  a0 := Try.isAgg0
  z0 := Try.sizeOf0
  v0 := Try.zeroValue0
  t24 := Try.underlying59
  a24 := Try.isAgg59
  z24 := Try.sizeOf59
  v24 := Try.zeroValue59
  t26 := Try.underlying3
  a26 := Try.isAgg3
  z26 := Try.sizeOf3
  v26 := Try.zeroValue3
  t28 := Try.underlying62
  a28 := Try.isAgg62
  z28 := Try.sizeOf62
  v28 := Try.zeroValue62
  i26 := by kernel_rfl }
open Go.RowKit Go.Maps Go.Sort Go.Shelf in
theorem Try.sorts28 (m : Nat) : AnyZI.SortsIn Try.prog Try.sorted28_ren Fence.wide m :=
  ⟨fun blk off cap ss W hH hblk hsz => callsIn_wide.2 (Try.slices_Sort_int blk off cap ss W hH hblk hsz), fun p cap W => callsIn_wide.2 (Try.slices_Sort_int_none p cap W)⟩
open Go.RowKit Go.Maps Go.Sort Go.Shelf in
theorem Try.maps_Keys_29 (mb : Option Nat) (W : World) : Calls Try.prog 29 #[.map mb] W fun e w' => e = .returned (.func (.func 36) #[] #[.pointer (some ⟨W.heap.size, 0, none⟩)]) ∧ w' = W.alloc (.cells #[.map mb] 47) :=
  callsIn_wide.1 (AnyZI.keys_in Try.keys29 Fence.wide 5 trivial rfl mb W)
set_option maxHeartbeats 1000000 in
open Go.RowKit Go.Maps Go.Sort Go.Shelf in
theorem Try.slices_Sorted_keys_29 {H : Type} (b nn : Nat) (D0 : DataW H) (R : Value → Option (DataW H × List MemPlace)) (w : World) (hown : w.ownsMap Try.prog 3 R b nn D0) (hmax : Maps.size D0 ≤ maxLen) (hbytes : Maps.size D0 * 8 ≤ 140737488355328) :
    Calls Try.prog 28 #[.func (.func 36) #[] #[.pointer (some ⟨w.heap.size, 0, none⟩)]] (w.alloc (.cells #[.map (some b)] 47)) fun e w' => ∃ (v : Value) (ss : List Int), e = .returned v ∧ ss.Perm (intKeys D0) ∧
      w'.ownsRow (w.alloc (.cells #[.map (some b)] 47)).heap.size 3 1 v ss.length ((ss.mergeSort (fun x y => decide (x ≤ y))).map (Value.int .i64)) ∧ Below (w.alloc (.cells #[.map (some b)] 47)).heap.size (w.alloc (.cells #[.map (some b)] 47)) w' := by
  have hbl := hown.lt
  have hseq : SeqGives Fence.wide 2 Try.prog 36 #[.pointer (some ⟨w.heap.size, 0, none⟩)] encZ (fun ss => ss.Perm (intKeys D0)) (Maps.size D0) (w.alloc (.cells #[.map (some b)] 47)) :=
    AnyZI.keys_gives (ρ := Try.keys29_ren) { Try.keys29 with } Fence.wide _ trivial rfl (by omega) w.heap.size b nn D0 _ (by simp) (by simp) (by
      obtain ⟨es, clock, hb, Ft, hs, hD⟩ := hown
      exact ⟨es, clock, (Below.heap_alloc _ _ b hbl).trans hb, Ft, hs, hD⟩)
  refine (callsIn_wide.1 (AnyZI.sorted_in Try.sorted28 Fence.wide 5 trivial trivial trivial trivial rfl (by omega) (Try.sorts28 _) (enters_of Try.func35 (by kernel_rfl) rfl) 36 #[.pointer (some ⟨w.heap.size, 0, none⟩)] trivial (enters_of Try.func36 (by kernel_rfl) rfl) _ _ hmax hbytes _ hseq)).mono ?_
  rintro e w' ⟨v, ss, h1, h2, h3, _, h5⟩
  exact ⟨v, ss, h1, h2, h3, h5⟩
end Go.Proofs
