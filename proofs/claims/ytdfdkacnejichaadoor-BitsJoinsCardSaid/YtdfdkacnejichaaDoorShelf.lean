/- What the library's functions that this program calls do, as theorems of this program: the kit's own contracts, laid at its numbers; conditions as each states them. -/
import Derived.Ground.SlgnProg
import Derived.Shelf.SlicesE.Clone
import Derived.Test.YtdfdkacnejichaaDoorProg
namespace Go.Proofs
open Go.Shelf
def Tryd.laysSlE041_f47_ren : Go.Shelf.Ren := ⟨fun | 41 => 47 | n => n, fun | 22 => 60 | 23 => 63 | 4 => 4 | n => n, fun | n => n⟩
theorem Tryd.laysSlE041_f47 : Go.Proofs.SlLaysE0.n41 Tryd.prog Tryd.laysSlE041_f47_ren := {
  mixed := by kernel_rfl
  f41 := ⟨Tryd.f47.name, by decide, Tryd.func47.trans (congrArg some (by kernel_rfl))⟩
  t4 := Tryd.underlying4
  a4 := Tryd.isAgg4
  z4 := Tryd.sizeOf4
  v4 := Tryd.zeroValue4
  t22 := Tryd.underlying60
  a22 := Tryd.isAgg60
  z22 := Tryd.sizeOf60
  v22 := Tryd.zeroValue60 }
open Go.RowKit Go.Lib in
theorem Tryd.slices_Clone (i0 : TypeInfo) (z : Value) (size bytes : Nat) (hi : Tryd.prog.info? 63 = some i0) (hz0 : i0.zero = some z) (hz1 : i0.size = size) (hz2 : i0.bytes = bytes) (hzs : z.cells.size = size) (hsz : 0 < size) (z23 : ∀ w, (Go.sizeOf 63).run Tryd.prog w = .ok size w) (b off n c : Nat) (news : List Value) (w : World) (hl : news.length = n * size) (hn : n ≤ maxLen) (hbig : n * bytes ≤ 140737488355328) (hc : ∀ j u, news[j]? = some u → w.cell? ⟨b, off + j, none⟩ = some u) (h1 : ∀ u ∈ news, u.oneCell' = true) :
    Calls Tryd.prog 47 #[.slice (some ⟨b, off, none⟩) n c] w fun e w' => ∃ v', e = .returned v' ∧ w'.ownsRow w.heap.size 63 size v' n news ∧ v' ≠ .slice none 0 0 ∧ Below w.heap.size w w' := AnyE.slices_Clone Tryd.laysSlE041_f47 i0 z size bytes hi hz0 hz1 hz2 hzs hsz z23 b off n c news w hl hn hbig hc h1
open Go.RowKit Go.Lib in
theorem Tryd.slices_Clone_nil (n c : Nat) (w : World) :
    Calls Tryd.prog 47 #[.slice none n c] w fun e w' => e = .returned (.slice none 0 0) ∧ w' = w := AnyE.slices_Clone_nil Tryd.laysSlE041_f47 n c w
end Go.Proofs
