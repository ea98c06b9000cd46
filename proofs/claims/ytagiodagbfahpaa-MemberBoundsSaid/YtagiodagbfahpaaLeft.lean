/- What is left of a map when rows are taken out one by one; no condition. -/
import Derived.Test.YtagiodagbfahpaaMapL
namespace Go.Proofs.Ytagiodagbfahpaa
open Go Go.RowKit
variable {α : Type}

/-- The map behind the first rows of l. -/
def leftG (φ : Int × α → Bool) (l ks : List (Int × α)) : List (Int × α) := l.foldl (fun ks q => if φ q then delL ks q.1 else ks) ks
theorem leftG_add (φ : Int × α → Bool) (l ks : List (Int × α)) (q : Int × α) : leftG φ (l ++ [q]) ks = if φ q then delL (leftG φ l ks) q.1 else leftG φ l ks := by
  unfold leftG
  rw [List.foldl_append]
  rfl
theorem leftG_filter (φ : Int × α → Bool) : ∀ (l ks : List (Int × α)), leftG φ l ks = ks.filter fun q => l.all fun x => !φ x || q.1 != x.1
  | [], ks => by
    rw [List.filter_eq_self.2 (by simp)]; rfl
  | y :: l, ks => by
    show leftG φ l (if φ y then delL ks y.1 else ks) = _
    rw [leftG_filter φ l]
    by_cases h : φ y = true
    · rw [if_pos h]
      unfold delL
      rw [List.filter_filter]
      refine List.filter_congr fun q _ => ?_
      by_cases e : q.1 = y.1 <;> simp [h, e]
    · rw [if_neg h]
      refine List.filter_congr fun q _ => ?_
      simp [h]
theorem mem_eq {ks : List (Int × α)} (hr : Rising ks) {q x : Int × α} (hq : q ∈ ks) (hx : x ∈ ks) (e : q.1 = x.1) : q = x := by
  have h1 := lk_of_mem hr (k := q.1) (v := q.2) hq
  have h2 := lk_of_mem hr (k := x.1) (v := x.2) hx
  rw [← e, h1] at h2
  exact Prod.ext e (Option.some.inj h2)
theorem leftG_all (φ : Int × α → Bool) (ks : List (Int × α)) (hr : Rising ks) : leftG φ ks ks = ks.filter fun q => !φ q := by
  rw [leftG_filter]
  refine List.filter_congr fun q hq => ?_
  cases h : φ q with
  | true =>
    simp only [Bool.not_true]
    rw [List.all_eq_false]
    exact ⟨q, hq, by simp [h]⟩
  | false =>
    simp only [Bool.not_false]
    rw [List.all_eq_true]
    intro x hx
    by_cases e : q.1 = x.1
    · rw [← mem_eq hr hq hx e, h]; rfl
    · simp [e]
/-- A row that stands behind the first k is there yet. -/
theorem leftG_look (φ : Int × α → Bool) {ks : List (Int × α)} (hr : Rising ks) {k : Nat} {q : Int × α} (h : ks[k]? = some q) : lkL (leftG φ (ks.take k) ks) q.1 = some q.2 := by
  rw [leftG_filter]
  refine lk_of_mem (List.Pairwise.filter _ hr) (List.mem_filter.2 ⟨List.mem_of_getElem? h, ?_⟩)
  rw [List.all_eq_true]
  intro x hx
  obtain ⟨j, hj⟩ := List.getElem?_of_mem hx
  rw [List.getElem?_take] at hj
  split at hj
  · rename_i hjk
    obtain ⟨h1, e1⟩ := List.getElem?_eq_some_iff.1 hj
    obtain ⟨h2, e2⟩ := List.getElem?_eq_some_iff.1 h
    have h3 := List.pairwise_iff_getElem.1 hr j k h1 h2 hjk
    rw [e1, e2] at h3
    simp; right; omega
  · cases hj
theorem filterG_take (φ : Int × α → Bool) (ks : List (Int × α)) (k : Nat) (q : Int × α) (h : ks[k]? = some q) : (ks.take (k + 1)).filter φ = (ks.take k).filter φ ++ if φ q then [q] else [] := by
  rw [List.take_add_one, h, List.filter_append]
  cases hq : φ q <;> simp [hq]
theorem keys_append (a b : List (Int × α)) : keysL (a ++ b) = keysL a ++ keysL b := List.map_append
theorem keys_len (l : List (Int × α)) : (keysL l).length = l.length := by simp [keysL]
theorem keys_get (l : List (Int × α)) {k : Nat} {q : Int × α} (h : l[k]? = some q) : (keysL l)[k]? = some q.1 := by simp [keysL, h]
end Go.Proofs.Ytagiodagbfahpaa
