/- The laws on rarest: sets; no condition. -/
import Derived.Test.YtfopglaagnbacaaDoorRaC
import Derived.Test.YtfopglaagnbacaaDoorBitsH
namespace Go.Proofs.YtfopglaagnbacaaDoor
open Go Go.RowKit

/-- The places that bytes have. -/
def F13 (n : Nat) (bs : List Nat) : Nat → Bool := fun x => decide (x < n) && decide (x / 8 < bs.length) && (bs.getD (x / 8) 0).testBit (x % 8)
def ofP (f : Nat → Bool) (k : Nat) : Nat → Bool := fun x => decide (x < k) && f x
theorem ofP_zero (f : Nat → Bool) : ofP f 0 = fun _ => false := by funext x; simp [ofP]
theorem ofP_step (f : Nat → Bool) (k : Nat) : fil (ofP f k) k (k + 1) (f k) = ofP f (k + 1) := by
  funext x
  unfold fil ofP
  by_cases h : k ≤ x ∧ x < k + 1
  · obtain rfl : x = k := by omega
    rw [if_pos h]
    simp
  · rw [if_neg h]
    by_cases h2 : x < k
    · simp [h2, show x < k + 1 by omega]
    · simp [h2, show ¬ x < k + 1 by omega]
theorem ofP_all {f : Nat → Bool} {k : Nat} (h : ∀ x, k ≤ x → f x = false) : ofP f k = f := by
  funext x
  unfold ofP
  by_cases h2 : x < k
  · simp [h2]
  · simp [h2, h x (by omega)]

theorem and_bit8_all : ∀ z : Fin 256, ∀ r : Fin 8, decide (bits .and .u8 ((z.1 : Int) / 2 ^ r.1) 1 = 1) = z.1.testBit r.1 := by decide +kernel
theorem and_bit8 {z r : Nat} (hz : z < 256) (hr : r < 8) : decide (bits .and .u8 ((z : Int) / 2 ^ r) 1 = 1) = z.testBit r := and_bit8_all ⟨z, hz⟩ ⟨r, hr⟩
end Go.Proofs.YtfopglaagnbacaaDoor
