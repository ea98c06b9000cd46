/- The keys of a map of ints, sorted, in plain words; no condition. -/
import Derived.Test.YtfopglaagnbacaaDoorKit
import Derived.Test.YtfopglaagnbacaaDoorMapL
import Derived.Test.YtfopglaagnbacaaDoorIter
import Derived.Deep.Onto
namespace Go.Proofs.YtfopglaagnbacaaDoor
open Go Go.RowKit

theorem keys_toD (l : List (Int × Value)) : intKeys (toD l) = keysL l := by
  simp only [toD, intKeys, keysL, List.map_map]
  rfl
theorem size_toD (l : List (Int × Value)) : Maps.size (toD l) = l.length := by simp [toD, Maps.size]
theorem keys_le {α : Type} : ∀ {l : List (Int × α)}, Rising l → (keysL l).Pairwise fun a b => decide (a ≤ b) = true
  | [], _ => List.Pairwise.nil
  | p :: l, h => by
    obtain ⟨h1, h2⟩ := List.pairwise_cons.1 h
    refine List.pairwise_cons.2 ⟨fun a ha => ?_, keys_le h2⟩
    obtain ⟨q, hq, rfl⟩ := List.mem_map.1 ha
    have := h1 q hq
    simp only [decide_eq_true_eq]
    omega
theorem sort_keys {α : Type} {l : List (Int × α)} (hr : Rising l) {ss : List Int} (h : ss.Perm (keysL l)) : ss.mergeSort (fun x y => decide (x ≤ y)) = keysL l := by
  have tr : ∀ a b c : Int, decide (a ≤ b) = true → decide (b ≤ c) = true → decide (a ≤ c) = true := fun a b c h1 h2 => by simp only [decide_eq_true_eq] at *; omega
  have to : ∀ a b : Int, (decide (a ≤ b) || decide (b ≤ a)) = true := fun a b => by simp only [Bool.or_eq_true, decide_eq_true_eq]; omega
  refine List.Perm.eq_of_pairwise (le := fun a b : Int => decide (a ≤ b) = true) (fun a b _ _ h1 h2 => ?_) (List.pairwise_mergeSort tr to ss) (keys_le hr) ((List.mergeSort_perm ss _).trans h)
  simp only [decide_eq_true_eq] at h1 h2
  omega
abbrev intL (l : List Int) : List Value := l.map (Value.int .i64)
/-- What is handed back: a list of integers in new memory. -/
def IntsP (l : List Int) (w : World) (e : Ending) (w' : World) : Prop := ∃ v, e = .returned v ∧ w'.ownsRow w.heap.size 3 1 v l.length (intL l) ∧ Mod (fun _ => False) w w'
theorem IntsP.of_sorted {l : List (Int × Value)} (hr : Rising l) {w w1 : World} {e : Ending} {w' : World} (h1 : Mod (fun _ => False) w w1) (h : ∃ (v : Value) (ss : List Int), e = .returned v ∧ ss.Perm (intKeys (toD l)) ∧ w'.ownsRow w1.heap.size 3 1 v ss.length ((ss.mergeSort (fun x y => decide (x ≤ y))).map (Value.int .i64)) ∧ Below w1.heap.size w1 w') : IntsP (keysL l) w e w' := by
  obtain ⟨v, ss, he, hp, ho, hb⟩ := h
  rw [keys_toD] at hp
  refine ⟨v, he, ?_, h1.trans (Mod.of_below hb)⟩
  rw [sort_keys hr hp, hp.length_eq] at ho
  exact ho.mono h1.size
end Go.Proofs.YtfopglaagnbacaaDoor
