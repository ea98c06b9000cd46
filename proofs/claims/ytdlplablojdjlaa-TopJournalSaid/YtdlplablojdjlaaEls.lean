/- Slices of structs of K cells: what an index reads, what a part of one is; no condition. -/
import Derived.Test.YtdlplablojdjlaaKit
import Derived.Deep.Fields
namespace Go.Proofs.Ytdlplablojdjlaa
open Go Go.RowKit

theorem Mod.set1 {b : Nat} {w w' : World} (h : Mod (· = b) w w') (j : Nat) (u : Value) : Mod (· = b) w (w'.setCell ⟨b, j, none⟩ u) := h.setCell (p := ⟨b, j, none⟩) (.inl rfl) u
/-- Of a slice of n elements of K cells each: where its cells are. -/
def Els (w : World) (a : Option Addr) (K n : Nat) (xs : List Value) : Prop :=
  ∀ i, i < n → ∃ X, a = some X ∧ (∀ u, xs[i * K]? = some u → w.cell? (X.add (i * K)) = some u) ∧ ∀ j u, xs[i * K + j]? = some u → j < K → w.cell? ⟨(X.add (i * K)).block, (X.add (i * K)).off + j, none⟩ = some u
theorem Els.mod {S : Nat → Prop} {w w' : World} {a : Option Addr} {K n : Nat} {xs : List Value} (h : Els w a K n xs) (hm : Mod S w w') (hS : ∀ X, a = some X → ¬ S X.block) : Els w' a K n xs := by
  intro i hi
  obtain ⟨X, rfl, h1, h2⟩ := h i hi
  exact ⟨X, rfl, fun u hu => hm.cell (h1 u hu) (by rw [Addr.add_block]; exact hS X rfl), fun j u hu hj => hm.cell (h2 j u hu hj) (by show ¬ S (X.add (i * K)).block; rw [Addr.add_block]; exact hS X rfl)⟩
theorem Els.new {w w' : World} {a : Option Addr} {K n : Nat} {xs : List Value} (h : Els w a K n xs) (hm : Mod (fun _ => False) w w') : Els w' a K n xs := h.mod hm fun _ _ h => h
theorem add_g (g n : Nat) : (⟨g, 0, none⟩ : Addr).add n = ⟨g, n, none⟩ := by
  cases n with
  | zero => rfl
  | succ n => simp [Addr.add]
theorem _root_.Go.World.ownsRow.els {w : World} {base : Nat} {e : TypeId} {K : Nat} {v : Value} {n : Nat} {xs : List Value} (h : w.ownsRow base e K v n xs) : ∃ a cap, v = .slice a n cap ∧ n ≤ cap ∧ Els w a K n xs ∧ ∀ X, a = some X → base ≤ X.block ∧ X.block < w.heap.size := by
  have hlt := h.lt
  rcases h.2 with ⟨rfl, rfl⟩ | ⟨g, cap, cur, rfl, hg, hh, h1, h2, h3, h4⟩
  · exact ⟨none, 0, rfl, Nat.le_refl _, fun i hi => absurd hi (Nat.not_lt_zero _), fun X h => by cases h⟩
  · refine ⟨_, cap, rfl, h1, fun i hi => ⟨_, rfl, fun u hu => ?_, fun j u hu hj => ?_⟩, fun X hX => ?_⟩
    · have hl := (List.getElem?_eq_some_iff.1 hu).1
      have e1 := h.cellAt (i * K) (by rw [← h.1]; exact hl)
      rw [hu] at e1
      rw [add_g]
      exact e1
    · have hl := (List.getElem?_eq_some_iff.1 hu).1
      have e1 := h.cellAt (i * K + j) (by rw [← h.1]; exact hl)
      rw [hu] at e1
      rw [add_g]
      exact e1
    · cases hX
      exact hlt g rfl
/-- A part of a slice that Sl knows. -/
theorem Sl.part {w : World} {X : Addr} {K n lo hi c c' : Nat} {xs : List Value} (h : Sl w (.slice (some X) n c) K n xs) (h1 : lo ≤ hi) (h2 : hi ≤ n) : Sl w (.slice (some (X.add (lo * K))) (hi - lo) c') K (hi - lo) ((xs.drop (lo * K)).take ((hi - lo) * K)) := by
  rcases h with ⟨h3, _⟩ | ⟨x, d, hv, h3, h4⟩
  · cases h3
  · cases hv
    have hb : hi * K ≤ n * K := Nat.mul_le_mul_right K h2
    have hs : (hi - lo) * K = hi * K - lo * K := Nat.sub_mul _ _ _
    have hlo : lo * K ≤ hi * K := Nat.mul_le_mul_right K h1
    refine .inr ⟨_, c', rfl, ?_, fun j u hj => ?_⟩
    · rw [List.length_take, List.length_drop, h3]; omega
    · rw [List.getElem?_take] at hj
      split at hj
      · rw [List.getElem?_drop] at hj
        rw [Go.Deep.add_add]
        exact h4 _ _ hj
      · cases hj
/-- 'sv[lo:]' as the machine yields it. -/
theorem Sl.tail {w : World} {X : Addr} {K n lo c : Nat} {xs : List Value} (h : Sl w (.slice (some X) n c) K n xs) (h1 : lo ≤ n) (h2 : n ≤ c) : Sl w (.slice (if c = lo then some X else some (X.add (lo * K))) (n - lo) (c - lo)) K (n - lo) (xs.drop (lo * K)) := by
  have hl := h.len
  by_cases e : c = lo
  · have hn : n = lo := by omega
    subst hn
    rw [if_pos e, Nat.sub_self]
    refine .inr ⟨X, _, rfl, ?_, fun j u hj => ?_⟩
    · rw [List.length_drop, hl]; simp
    · rw [List.drop_eq_nil_of_le (by omega)] at hj
      simp at hj
  · rw [if_neg e]
    have h3 := h.part (lo := lo) (hi := n) (c' := c - lo) h1 (Nat.le_refl _)
    rw [List.take_of_length_le (by rw [List.length_drop, hl, Nat.sub_mul]; omega)] at h3
    exact h3
theorem Sl.tailN {w : World} {X : Addr} {K n lo c : Nat} {xs : List Value} (h : Sl w (.slice (some X) n c) K n xs) (h1 : lo < n) (h2 : n ≤ c) : Sl w (.slice (some (X.add (lo * K))) (n - lo) (c - lo)) K (n - lo) (xs.drop (lo * K)) := by
  have := h.tail (Nat.le_of_lt h1) h2
  rwa [if_neg (by omega)] at this
theorem Sl.head {w : World} {X : Addr} {K n hi c : Nat} {xs : List Value} (h : Sl w (.slice (some X) n c) K n xs) (h1 : hi ≤ n) : Sl w (.slice (some X) hi c) K hi (xs.take (hi * K)) := by
  have h3 := h.part (lo := 0) (hi := hi) (c' := c) (Nat.zero_le _) h1
  simpa [Addr.add] using h3
/-- A struct that was just boxed, as a slice of one. -/
theorem sl_new (w : World) (cs : Array Value) (e : TypeId) : Sl (w.alloc (.cells cs e)) (.slice (some ⟨w.heap.size, 0, none⟩) 1 1) cs.size 1 cs.toList := by
  refine .inr ⟨_, _, rfl, by simp, fun j u hj => ?_⟩
  rw [add_g]
  exact ((Blk.new w cs e).cell j).trans (by simpa using hj)
/-- A slice of no elements, that is not nil. -/
theorem owns_empty (w : World) (base : Nat) (e : TypeId) (K : Nat) (h : base ≤ w.heap.size) : (w.alloc (.cells #[] e)).ownsRow base e K (.slice (some ⟨w.heap.size, 0, none⟩) 0 0) 0 [] := by
  refine ⟨by simp, .inr ⟨w.heap.size, 0, #[], rfl, h, ?_, Nat.le_refl _, ?_⟩⟩
  · exact heap_alloc_new w _
  · simp
end Go.Proofs.Ytdlplablojdjlaa
