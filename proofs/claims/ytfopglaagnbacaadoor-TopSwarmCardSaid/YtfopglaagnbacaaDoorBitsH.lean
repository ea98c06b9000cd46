/- Package bits: Has; no condition. -/
import Derived.Test.YtfopglaagnbacaaDoorBitsA
import Derived.Test.YtfopglaagnbacaaDoorPop
import Derived.Test.YtfopglaagnbacaaDoorBitsB
namespace Go.Proofs.YtfopglaagnbacaaDoor
open Go Go.RowKit Go.IntWalk

theorem and_bit64 (h : Nat → Bool) (r : Nat) (hr : r < 64) : (bits .and .u64 ((pk h 64 : Int) / 2 ^ r) 1 == 1) = h r := by
  have e : ((pk h 64 : Int) / 2 ^ r) = ((pk h 64 / 2 ^ r : Nat) : Int) := by simp
  have hlt := pk_lt h 64
  have hle : pk h 64 / 2 ^ r ≤ pk h 64 := Nat.div_le_self _ _
  have e2 := bits_and_u64_nat (pk h 64 / 2 ^ r) 1 (by omega) (by decide)
  rw [e, show (1 : Int) = ((1 : Nat) : Int) from rfl, e2]
  have e3 : pk h 64 / 2 ^ r &&& 1 = if h r then 1 else 0 := by
    have := testBit_pk h 64 r
    rw [← Nat.shiftRight_eq_div_pow, Nat.and_one_is_mod]
    have h2 : (pk h 64).testBit r = ((pk h 64 >>> r) % 2 == 1) := by
      rw [Nat.testBit, Nat.and_comm, Nat.and_one_is_mod]
      rcases Nat.mod_two_eq_zero_or_one (pk h 64 >>> r) with h | h <;> rw [h] <;> rfl
    rw [this] at h2
    simp only [hr, decide_true, Bool.true_and] at h2
    rcases Nat.mod_two_eq_zero_or_one (pk h 64 >>> r) with h3 | h3
    · rw [h3] at h2 ⊢; rw [h2]; rfl
    · rw [h3] at h2 ⊢; rw [h2]; rfl
  rw [e3]
  cases h r <;> rfl

/-- Is a place a one? -/
def hasB (f : Nat → Bool) (i : Int) : Bool := decide (0 ≤ i) && f i.toNat

set_option maxRecDepth 100000 in
set_option maxHeartbeats 1000000 in
theorem bitsHas (b g n : Nat) (f : Nat → Bool) (i : Int) (w : World) (h : BSet w b g n f) :
    Calls Tryd.prog 12 #[.pointer (some ⟨b, 0, none⟩), .int .i64 i] w fun e w' => e = .returned (.bool (hasB f i)) ∧ w = w' := by
  have d0 := h.n0
  have hsm := h.small
  by_cases h0 : 0 ≤ i
  · obtain ⟨k, rfl⟩ : ∃ k : Nat, i = k := ⟨i.toNat, by omega⟩
    by_cases h1 : k < n
    · obtain ⟨q, hq⟩ : ∃ q : Nat, q = k / 64 := ⟨_, rfl⟩
      obtain ⟨r, hr⟩ : ∃ r : Nat, r = k % 64 := ⟨_, rfl⟩
      obtain ⟨m, hmm⟩ : ∃ m, m = (n + 63) / 64 := ⟨_, rfl⟩
      obtain ⟨c, d3⟩ := h.s1
      obtain ⟨d1, _⟩ := h.word (k := q) (by omega)
      have hb := and_bit64 (fun j => f (64 * q + j)) r (by omega)
      rw [show 64 * q + r = k by omega] at hb
      have hx : hasB f (k : Int) = f k := by simp [hasB]
      rw [hx]
      rw [← hmm] at d3
      have hqq : (k : Int) / 64 = q := by omega
      have hqm : q < m := by omega
      have htm : (k : Int).tmod 64 = r := by rw [Int.tmod_eq_emod_of_nonneg (by omega)]; omega
      have hem : (k : Int) % 64 = r := by omega
      have hwq : IntKind.i64.wrap (q : Int) = q := by rw [IntKind.wrap_i64]; omega
      have hwr : IntKind.i64.wrap (r : Int) = r := by rw [IntKind.wrap_i64]; omega
      have hr9 : r < 64 := by omega
      have hsh : ∀ Z : Int, Op.shift .shr .u64 Z .i64 (r : Int) = pure (.int .u64 (Z / 2 ^ r)) := by
        intro Z
        rw [shift_shr_u64 .i64 Z (r : Int) (by omega) (by omega)]
        simp
      change ((bits .and .u64 ((wd f q : Int) / 2 ^ r) 1 == 1) = f k) at hb
      have hb2 : decide (bits .and .u64 ((wd f q : Int) / 2 ^ r) 1 = 1) = f k := by rw [← hb]; rfl
      generalize wd f q = W at d1 hb hb2
      generalize f k = v at hb hb2
      have h1' : (k : Int) < n := by omega
      clear hq hr hmm h hx
      go_enter Tryd.func12, Tryd.ntmps12
      go_wp2_with fail
      go_ret
      exact ⟨rfl, rfl⟩
    · have hx : hasB f (k : Int) = false := by simp [hasB]; exact h.out k (by omega)
      rw [hx]
      have h1' : ¬ ((k : Int) < n) := by omega
      clear h hx
      go_enter Tryd.func12, Tryd.ntmps12
      go_wp2_with fail
      go_ret
      exact ⟨rfl, rfl⟩
  · have hx : hasB f i = false := by simp [hasB, h0]
    rw [hx]
    clear h hx
    go_enter Tryd.func12, Tryd.ntmps12
    go_wp2_with fail
    go_ret
    exact ⟨rfl, rfl⟩
end Go.Proofs.YtfopglaagnbacaaDoor
