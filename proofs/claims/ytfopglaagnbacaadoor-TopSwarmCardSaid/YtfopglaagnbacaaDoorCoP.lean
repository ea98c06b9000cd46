/- What a pick answers; no condition. -/
import Derived.Test.YtfopglaagnbacaaDoorRcA
namespace Go.Proofs.YtfopglaagnbacaaDoor
open Go Go.RowKit

/-- Whether one below k is so. -/
def anyB (F : Nat → Bool) : Nat → Bool
  | 0 => false
  | k + 1 => anyB F k || F k
theorem anyB_no {F : Nat → Bool} : ∀ {k : Nat}, anyB F k = false → ∀ y, y < k → F y = false
  | 0, _, y, h => by omega
  | k + 1, h, y, hy => by
    have h' : (anyB F k || F k) = false := h
    obtain ⟨h1, h2⟩ := Bool.or_eq_false_iff.1 h'
    by_cases e : y = k
    · rw [e]; exact h2
    · exact anyB_no h1 y (by omega)
structure PickOk (c : Nat → Int) (F : Nat → Bool) (k : Nat) (l : List Nat) : Prop where
  nil : l = [] → anyB F k = false
  some : l ≠ [] → anyB F k = true
  ok : ∀ x ∈ l, F x = true ∧ x < k ∧ ∀ y, y < k → F y = true → c x ≤ c y
theorem pickL_ok (c : Nat → Int) (F : Nat → Bool) : ∀ k, PickOk c F k (pickL c F k)
  | 0 => ⟨fun _ => rfl, fun h => absurd rfl h, fun x h => by simp [pickL] at h⟩
  | k + 1 => by
    obtain ⟨h1, h2, h3⟩ := pickL_ok c F k
    unfold pickL
    by_cases hk : F k = true
    · rw [if_pos hk]
      have hany : anyB F (k + 1) = true := by show (anyB F k || F k) = true; rw [hk, Bool.or_true]
      cases hl : pickL c F k with
      | nil =>
        have hno := anyB_no (h1 hl)
        show PickOk c F (k + 1) [k]
        refine ⟨fun h => by simp at h, fun _ => hany, fun x hx => ?_⟩
        obtain rfl : x = k := by simpa using hx
        refine ⟨hk, by omega, fun y hy hF => ?_⟩
        by_cases e : y = x
        · rw [e]; exact Int.le_refl _
        · rw [hno y (by omega)] at hF; cases hF
      | cons h t =>
        rw [hl] at h3
        obtain ⟨hF, hlt, hle⟩ := h3 h (List.mem_cons_self ..)
        have hall : ∀ y, y < k + 1 → F y = true → ∀ z, z ≤ c h → z ≤ c k → z ≤ c y := fun y hy hFy z hz1 hz2 => by
          by_cases e : y = k
          · rw [e]; exact hz2
          · have := hle y (by omega) hFy; omega
        show PickOk c F (k + 1) (if c k < c h then [k] else if c k = c h then (h :: t) ++ [k] else h :: t)
        split
        · rename_i hlk
          refine ⟨fun h => by simp at h, fun _ => hany, fun x hx => ?_⟩
          obtain rfl : x = k := by simpa using hx
          exact ⟨hk, by omega, fun y hy hFy => hall y hy hFy _ (by omega) (Int.le_refl _)⟩
        · split
          · rename_i hlk hek
            refine ⟨fun h => by simp at h, fun _ => hany, fun x hx => ?_⟩
            rcases List.mem_append.1 hx with hx | hx
            · obtain ⟨g1, g2, g3⟩ := h3 x hx
              have := g3 h hlt hF
              exact ⟨g1, by omega, fun y hy hFy => hall y hy hFy _ this (by omega)⟩
            · obtain rfl : x = k := by simpa using hx
              exact ⟨hk, by omega, fun y hy hFy => hall y hy hFy _ (by omega) (Int.le_refl _)⟩
          · rename_i hlk hek
            refine ⟨fun h => by simp at h, fun _ => hany, fun x hx => ?_⟩
            obtain ⟨g1, g2, g3⟩ := h3 x hx
            have := g3 h hlt hF
            exact ⟨g1, by omega, fun y hy hFy => hall y hy hFy _ this (by omega)⟩
    · rw [if_neg hk]
      have hk' : F k = false := by simpa using hk
      have hany : anyB F (k + 1) = anyB F k := by show (anyB F k || F k) = _; rw [hk', Bool.or_false]
      refine ⟨fun h => by rw [hany]; exact h1 h, fun h => by rw [hany]; exact h2 h, fun x hx => ?_⟩
      obtain ⟨g1, g2, g3⟩ := h3 x hx
      refine ⟨g1, by omega, fun y hy hFy => ?_⟩
      by_cases e : y = k
      · rw [e, hk'] at hFy; cases hFy
      · exact g3 y (by omega) hFy
/-- What is picked. -/
theorem pickR_ok (c : Nat → Int) (F : Nat → Bool) (n : Nat) (seed : Int) : (pickR c F n seed = -1 ∧ ∀ y, y < n → F y = false) ∨ ∃ x : Nat, pickR c F n seed = x ∧ x < n ∧ F x = true ∧ anyB F n = true ∧ ∀ y, y < n → F y = true → c x ≤ c y := by
  obtain ⟨h1, h2, h3⟩ := pickL_ok c F n
  unfold pickR
  by_cases hl : pickL c F n = []
  · left
    rw [hl]
    exact ⟨rfl, anyB_no (h1 hl)⟩
  · right
    have hpos : 0 < (pickL c F n).length := List.length_pos_iff.2 hl
    rw [if_neg (by omega)]
    obtain ⟨k, hk, hkl⟩ := blw_at seed hpos
    rw [hk, Int.toNat_natCast, List.getD_eq_getElem?_getD, List.getElem?_eq_getElem hkl]
    obtain ⟨g1, g2, g3⟩ := h3 _ (List.getElem_mem hkl)
    exact ⟨_, rfl, g2, g1, h2 hl, g3⟩
end Go.Proofs.YtfopglaagnbacaaDoor
