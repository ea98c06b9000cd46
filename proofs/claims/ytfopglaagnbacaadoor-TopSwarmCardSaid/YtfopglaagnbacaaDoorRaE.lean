/- The laws on rarest: one that lives; no condition but the table. -/
import Derived.Test.YtfopglaagnbacaaDoorRaD
namespace Go.Proofs.YtfopglaagnbacaaDoor
open Go Go.RowKit

theorem ApartO.fresh {w : World} {b M g n : Nat} {most : Int} {c : Nat → Int} {ks : List (Int × Ow)} (h : BD w b M g n most c ks) {s sg : Nat} (h1 : w.heap.size ≤ s) (h2 : w.heap.size ≤ sg) : ApartO b M g ks s sg := fun i hi => by have := h.lt hi; omega
theorem ApartO.put {b M g : Nat} {ks : List (Int × Ow)} {s sg : Nat} (h : ApartO b M g ks s sg) {peer : Int} {x y : Nat} {f : Nat → Bool} (hx : s < x ∧ sg < x ∧ s < y ∧ sg < y) : ApartO b M g (putL ks peer ⟨x, y, f⟩) s sg := by
  intro i hi
  rcases hi with rfl | rfl | rfl | ⟨q, hq, e⟩
  · exact h _ (.inl rfl)
  · exact h _ (.inr (.inl rfl))
  · exact h _ (.inr (.inr (.inl rfl)))
  · rcases mem_putO hq with rfl | hq
    · simp only at e
      omega
    · exact h _ (.inr (.inr (.inr ⟨q, hq, e⟩)))
theorem byt1 (w : World) (x : Nat) : Sl (w.alloc (.cells #[.int .u8 (x : Int)] 5)) (.slice (some ⟨w.heap.size, 0, none⟩) 1 1) 1 1 (byts [x]) := sl_new w #[.int .u8 (x : Int)] 5
theorem bd_low {w : World} {b M g n : Nat} {most : Int} {c : Nat → Int} {ks : List (Int × Ow)} (h : BD w b M g n most c ks) : ∀ q ∈ ks, q.2.s < w.heap.size ∧ q.2.g < w.heap.size := fun q hq => ⟨(h.sets q hq).lt.1, (h.sets q hq).lt.2⟩
theorem cnK_bd {c : Nat → Int} {f : Nat → Bool} {d : Int} {k : Nat} {B : Int} (h : ∀ j, -B ≤ c j ∧ c j ≤ B) (hd : -1 ≤ d ∧ d ≤ 1) : ∀ j, -(B + 1) ≤ cnK c f d k j ∧ cnK c f d k j ≤ B + 1 := by
  intro j
  have := h j
  unfold cnK
  split <;> omega
end Go.Proofs.YtfopglaagnbacaaDoor
