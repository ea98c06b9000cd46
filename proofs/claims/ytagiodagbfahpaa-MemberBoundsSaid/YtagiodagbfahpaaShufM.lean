/- Plain facts on a list that is shuffled: its length, its state behind, that it has the same numbers; no condition. -/
import Derived.Test.YtagiodagbfahpaaDrawM
namespace Go.Proofs.Ytagiodagbfahpaa
open Go.RowKit

theorem u64_small {m : Int} (h0 : 0 ≤ m) (h1 : m < 9007199254740992) : U64 m := ⟨h0, Int.lt_trans h1 (by decide)⟩

theorem u64_succ {M n : Nat} (h : (M : Int) < n) (hb : n * 8 ≤ 140737488355328) : U64 ((M : Int) + 1) := u64_small (by omega) (by omega)

theorem blw_ex (s : Int) (M : Nat) : ∃ k : Nat, blw s ((M : Int) + 1) = (k : Int) ∧ k < M + 1 := by
  have h0 := blw_nonneg s ((M : Int) + 1)
  have h1 := blw_lt s (n := (M : Int) + 1) (by omega)
  exact ⟨(blw s ((M : Int) + 1)).toNat, by omega, by omega⟩

/-- Two places exchanged. -/
def swp (l : List Int) (i k : Nat) : List Int := (l.set i (l.getD k 0)).set k (l.getD i 0)
/-- The list from the place i down to the second one, and the state behind. -/
def shuf : Nat → Int → List Int → List Int × Int
  | 0, s, l => (l, s)
  | i + 1, s, l => shuf i (stp s) (swp l (i + 1) (blw s ((i : Int) + 2)).toNat)
def shuffled (s : Int) (l : List Int) : List Int := (shuf (l.length - 1) s l).1
def shufSt (s : Int) (l : List Int) : Int := (shuf (l.length - 1) s l).2

theorem shuf_step (M : Nat) (s : Int) (l : List Int) (h : 0 < M) : shuf M s l = shuf (M - 1) (stp s) (swp l M (blw s ((M : Int) + 1)).toNat) := by
  obtain ⟨i, rfl⟩ : ∃ i, M = i + 1 := ⟨M - 1, by omega⟩
  rw [shuf, Nat.add_sub_cancel, show ((i + 1 : Nat) : Int) + 1 = (i : Int) + 2 from by omega]
theorem swp_len (l : List Int) (i k : Nat) : (swp l i k).length = l.length := by simp [swp]
theorem shuf_len : ∀ (i : Nat) (s : Int) (l : List Int), (shuf i s l).1.length = l.length
  | 0, _, _ => rfl
  | i + 1, s, l => by rw [shuf, shuf_len i]; exact swp_len _ _ _
theorem shuffled_len (s : Int) (l : List Int) : (shuffled s l).length = l.length := shuf_len _ _ _

theorem blw_nat (s : Int) (i : Nat) : (blw s ((i : Int) + 2)).toNat < i + 2 := by
  have h := blw_lt s (n := (i : Int) + 2) (by omega)
  have h0 := blw_nonneg s ((i : Int) + 2)
  omega

theorem count_swp (l : List Int) (i k : Nat) (hi : i < l.length) (hk : k < l.length) (x : Int) : (swp l i k).count x = l.count x := by
  unfold swp
  rw [List.getD_eq_getElem?_getD, List.getElem?_eq_getElem hk, List.getD_eq_getElem?_getD, List.getElem?_eq_getElem hi]
  simp only [Option.getD_some]
  rw [List.count_set (by simpa using hk), List.count_set hi, List.getElem_set]
  have hci := List.count_pos_iff.2 (List.getElem_mem hi)
  have hck := List.count_pos_iff.2 (List.getElem_mem hk)
  by_cases h1 : l[i] = x
  · by_cases h2 : l[k] = x
    · subst h1
      simp [h2]
    · have : i ≠ k := fun e => by subst e; exact h2 h1
      subst h1
      simp [h2, this]
  · by_cases h2 : l[k] = x
    · have : i ≠ k := fun e => by subst e; exact h1 h2
      subst h2
      simp [h1, this]
    · by_cases e : i = k
      · subst e; simp [h1]
      · simp [h1, h2, e]
theorem count_shuf (x : Int) : ∀ (i : Nat) (s : Int) (l : List Int), i < l.length ∨ i = 0 → (shuf i s l).1.count x = l.count x
  | 0, _, _, _ => rfl
  | i + 1, s, l, h => by
    have hl : i + 1 < l.length := by omega
    have hb := blw_nat s i
    rw [shuf, count_shuf x i _ _ (by rw [swp_len]; omega)]
    exact count_swp l _ _ hl (by omega) x
theorem count_shuffled (x s : Int) (l : List Int) : (shuffled s l).count x = l.count x := count_shuf x _ _ _ (by omega)
end Go.Proofs.Ytagiodagbfahpaa
