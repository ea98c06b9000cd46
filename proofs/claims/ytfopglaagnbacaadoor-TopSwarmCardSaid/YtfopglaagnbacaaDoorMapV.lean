/- A map from ints to records, as a rising list; no condition. -/
import Derived.Test.YtfopglaagnbacaaDoorMapL
namespace Go.Proofs.YtfopglaagnbacaaDoor
open Go Go.RowKit
variable {α : Type}

/-- The entries as values. -/
def mpV (f : Int → α → Value) (ks : List (Int × α)) : List (Int × Value) := ks.map fun p => (p.1, f p.1 p.2)
theorem lk_mpV (f : Int → α → Value) (ks : List (Int × α)) (id : Int) : lkL (mpV f ks) id = (lkL ks id).map (f id) := by
  unfold lkL mpV
  rw [List.find?_map]
  cases h : ks.find? (fun p => p.1 == id) with
  | none => rw [show ((fun p : Int × Value => p.1 == id) ∘ fun p : Int × α => (p.1, f p.1 p.2)) = fun p => p.1 == id from rfl, h]; rfl
  | some p =>
    rw [show ((fun p : Int × Value => p.1 == id) ∘ fun p : Int × α => (p.1, f p.1 p.2)) = fun p => p.1 == id from rfl, h]
    have := List.find?_some h
    simp at this
    simp [this]
theorem del_mpV (f : Int → α → Value) (ks : List (Int × α)) (id : Int) : delL (mpV f ks) id = mpV f (delL ks id) := by
  unfold delL mpV
  rw [List.filter_map]
  rfl
theorem ins_mpV (f : Int → α → Value) (id : Int) (r : α) : ∀ ks : List (Int × α), insS (id, f id r) (mpV f ks) = mpV f (insS (id, r) ks)
  | [] => rfl
  | y :: t => by
    show insS (id, f id r) ((y.1, f y.1 y.2) :: mpV f t) = _
    unfold insS
    by_cases h : id < y.1
    · simp only [h, if_true]; rfl
    · simp only [h, if_false, ins_mpV f id r t]; rfl
theorem put_mpV (f : Int → α → Value) (ks : List (Int × α)) (id : Int) (r : α) : putL (mpV f ks) id (f id r) = mpV f (putL ks id r) := by
  unfold putL
  rw [del_mpV, ins_mpV]
theorem len_mpV (f : Int → α → Value) (ks : List (Int × α)) : (mpV f ks).length = ks.length := by simp [mpV]
theorem keys_mpV (f : Int → α → Value) (ks : List (Int × α)) : keysL (mpV f ks) = keysL ks := by simp [mpV, keysL, List.map_map]
theorem rising_mpV {f : Int → α → Value} {ks : List (Int × α)} : Rising (mpV f ks) ↔ Rising ks := by
  unfold Rising mpV
  rw [List.pairwise_map]
end Go.Proofs.YtfopglaagnbacaaDoor
