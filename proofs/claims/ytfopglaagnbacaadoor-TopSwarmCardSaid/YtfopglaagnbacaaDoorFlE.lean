/- Package flight: out. -/
import Derived.Test.YtfopglaagnbacaaDoorFlD
namespace Go.Proofs.YtfopglaagnbacaaDoor.Fl
open Go Go.RowKit

theorem owns_new {w w' : World} {base : Nat} {e : TypeId} {size : Nat} {v : Value} {n : Nat} {xs : List Value} (h : w.ownsRow base e size v n xs) (hm : Mod (fun _ => False) w w') : w'.ownsRow base e size v n xs := by
  obtain ⟨h1, h2⟩ := h
  rcases h2 with h2 | ⟨g, cap, cur, hv, hb, hh, rest⟩
  · exact ⟨h1, .inl h2⟩
  · exact ⟨h1, .inr ⟨g, cap, cur, hv, hb, (show Blk w g cur e from hh).mod hm (fun h => h), rest⟩⟩
theorem owns_mod {S : Nat → Prop} {w w' : World} {base : Nat} {e : TypeId} {size : Nat} {v : Value} {n : Nat} {xs : List Value} (h : w.ownsRow base e size v n xs) (hm : Mod S w w') (hS : ∀ i, base ≤ i → ¬ S i) : w'.ownsRow base e size v n xs := by
  obtain ⟨h1, h2⟩ := h
  rcases h2 with h2 | ⟨g, cap, cur, hv, hb, hh, rest⟩
  · exact ⟨h1, .inl h2⟩
  · exact ⟨h1, .inr ⟨g, cap, cur, hv, hb, (show Blk w g cur e from hh).mod hm (hS g hb), rest⟩⟩
theorem rqL_get : ∀ (ks : List (Int × Rq)) (k j : Nat) (x : Int) (r : Rq), ks[k]? = some (x, r) → j < 3 → (rqL ks)[k * 3 + j]? = (rqC (x, r))[j]?
  | [], k, j, x, r, h, hj => by simp at h
  | q :: t, 0, j, x, r, h, hj => by
    simp at h
    subst h
    show (rqC (x, r) ++ rqL t)[0 * 3 + j]? = _
    rw [Nat.zero_mul, Nat.zero_add, List.getElem?_append_left (by simpa [rqC] using hj)]
  | q :: t, k + 1, j, x, r, h, hj => by
    show (rqC q ++ rqL t)[(k + 1) * 3 + j]? = _
    rw [List.getElem?_append_right (by simp [rqC]; omega), show (k + 1) * 3 + j - (rqC q).length = k * 3 + j by simp [rqC]; omega]
    exact rqL_get t k j x r (by simpa using h) hj
/-- The map behind the first rows of l. -/
def leftL (φ : Int × Rq → Bool) (l ks : List (Int × Rq)) : List (Int × Rq) := l.foldl (fun ks q => if φ q then delL ks q.1 else ks) ks
theorem leftL_add (φ : Int × Rq → Bool) (l ks : List (Int × Rq)) (q : Int × Rq) : leftL φ (l ++ [q]) ks = if φ q then delL (leftL φ l ks) q.1 else leftL φ l ks := by
  unfold leftL
  rw [List.foldl_append]
  rfl
theorem leftL_filter (φ : Int × Rq → Bool) : ∀ (l ks : List (Int × Rq)), leftL φ l ks = ks.filter fun q => l.all fun x => !φ x || q.1 != x.1
  | [], ks => by
    rw [List.filter_eq_self.2 (by simp)]; rfl
  | y :: l, ks => by
    show leftL φ l (if φ y then delL ks y.1 else ks) = _
    rw [leftL_filter φ l]
    by_cases h : φ y = true
    · rw [if_pos h]
      unfold delL
      rw [List.filter_filter]
      refine List.filter_congr fun q _ => ?_
      by_cases e : q.1 = y.1 <;> simp [h, e]
    · rw [if_neg h]
      refine List.filter_congr fun q _ => ?_
      simp [h]
theorem leftL_all (φ : Int × Rq → Bool) (ks : List (Int × Rq)) (hr : Rising ks) : leftL φ ks ks = ks.filter fun q => !φ q := by
  rw [leftL_filter]
  refine List.filter_congr fun q hq => ?_
  cases h : φ q with
  | true =>
    simp only [Bool.not_true]
    rw [List.all_eq_false]
    exact ⟨q, hq, by simp [h]⟩
  | false =>
    simp only [Bool.not_false]
    rw [List.all_eq_true]
    intro x hx
    by_cases e : q.1 = x.1
    · have h1 := lk_of_mem hr (k := q.1) (v := q.2) hq
      have h2 := lk_of_mem hr (k := x.1) (v := x.2) hx
      rw [← e, h1] at h2
      have : q = x := Prod.ext e (Option.some.inj h2)
      rw [← this, h]; rfl
    · simp [e]
theorem filter_take (φ : Int × Rq → Bool) (ks : List (Int × Rq)) (k : Nat) (q : Int × Rq) (h : ks[k]? = some q) : (ks.take (k + 1)).filter φ = (ks.take k).filter φ ++ if φ q then [q] else [] := by
  rw [List.take_add_one, h, List.filter_append]
  cases hq : φ q <;> simp [hq]

end Go.Proofs.YtfopglaagnbacaaDoor.Fl
