/- Plain facts on the numbers of package draw: what a state's number is, that unlike states have unlike numbers, that a number below n is below n; no condition. -/
import Derived.WalkKit
import Derived.Lib.Mul64
namespace Go.Proofs.YtfopglaagnbacaaDoor
open Go.RowKit

/-- A state's next state. -/
def stp (s : Int) : Int := IntKind.u64.wrap (s + 11400714819323198485)
/-- A state's number. -/
def mix (z : Int) : Int :=
  let a := IntKind.u64.wrap (bits BinOp.xor IntKind.u64 z (z / 1073741824) * 13787848793156543929)
  let b := IntKind.u64.wrap (bits BinOp.xor IntKind.u64 a (a / 134217728) * 10723151780598845931)
  bits BinOp.xor IntKind.u64 b (b / 2147483648)
def U64 (s : Int) : Prop := 0 ≤ s ∧ s < 18446744073709551616
theorem U64.toNat {s : Int} (h : U64 s) : s.toNat < 18446744073709551616 := by unfold U64 at h; omega
theorem U64.cast {s : Int} (h : U64 s) : ((s.toNat : Nat) : Int) = s := Int.toNat_of_nonneg h.1
theorem U64.of_wf {s : Int} (h : (Lit.int .u64 s).wf = true) : U64 s := by
  simp [Lit.wf, IntKind.min, IntKind.max, IntKind.signed, IntKind.bits] at h
  unfold U64; omega
theorem stp_u (s : Int) : U64 (stp s) := by
  unfold stp U64
  rw [IntKind.wrap_u64]
  omega

/-- The same over natural numbers. -/
def mixN (z : Nat) : Nat :=
  let a := (z ^^^ z / 1073741824) * 13787848793156543929 % 18446744073709551616
  let b := (a ^^^ a / 134217728) * 10723151780598845931 % 18446744073709551616
  b ^^^ b / 2147483648
theorem xs_lt (a s : Nat) (h : a < 18446744073709551616) : a ^^^ a / s < 18446744073709551616 :=
  Nat.xor_lt_two_pow (n := 64) h (Nat.lt_of_le_of_lt (Nat.div_le_self _ _) h)
theorem mix_nat (z : Nat) (h : z < 18446744073709551616) : mix (z : Int) = (mixN z : Int) := by
  have h1 : (z ^^^ z / 1073741824) * 13787848793156543929 % 18446744073709551616 < 18446744073709551616 := Nat.mod_lt _ (by omega)
  unfold mix mixN
  have e1 : bits .xor .u64 (z : Int) ((z : Int) / 1073741824) = ((z ^^^ z / 1073741824 : Nat) : Int) := xorShift_u64 z 1073741824 h
  have w1 : ∀ x : Nat, IntKind.u64.wrap ((x : Int) * 13787848793156543929) = ((x * 13787848793156543929 % 18446744073709551616 : Nat) : Int) := fun x => by rw [IntKind.wrap_u64]; omega
  have w2 : ∀ x : Nat, IntKind.u64.wrap ((x : Int) * 10723151780598845931) = ((x * 10723151780598845931 % 18446744073709551616 : Nat) : Int) := fun x => by rw [IntKind.wrap_u64]; omega
  have e2 : ∀ a : Nat, a < 18446744073709551616 → bits .xor .u64 (a : Int) ((a : Int) / 134217728) = ((a ^^^ a / 134217728 : Nat) : Int) := fun a ha => xorShift_u64 a 134217728 ha
  have e3 : ∀ a : Nat, a < 18446744073709551616 → bits .xor .u64 (a : Int) ((a : Int) / 2147483648) = ((a ^^^ a / 2147483648 : Nat) : Int) := fun a ha => xorShift_u64 a 2147483648 ha
  dsimp only
  rw [e1, w1, e2 _ h1, w2, e3 _ (Nat.mod_lt _ (by omega))]
theorem mixN_lt (z : Nat) : mixN z < 18446744073709551616 := xs_lt _ _ (Nat.mod_lt _ (by omega))
theorem mix_u' (s : Int) (h : U64 s) : U64 (mix s) := by
  have e := mix_nat s.toNat h.toNat
  rw [h.cast] at e
  rw [e]
  have := mixN_lt s.toNat
  unfold U64; omega
def nxD (s : Int) : Int := mix (stp s)
theorem nxD_u (s : Int) : U64 (nxD s) := mix_u' _ (stp_u s)

theorem xor_zero_eq {a b : Nat} (h : a ^^^ b = 0) : a = b := by
  have e : (a ^^^ b) ^^^ b = a := by rw [Nat.xor_assoc, Nat.xor_self, Nat.xor_zero]
  rw [h, Nat.zero_xor] at e
  exact e.symm
theorem xs_inj (a b s : Nat) (hs : 2 ≤ s) (hp : ∃ k, s = 2 ^ k) (h : a ^^^ a / s = b ^^^ b / s) : a = b := by
  obtain ⟨k, rfl⟩ := hp
  simp only [← Nat.shiftRight_eq_div_pow] at h
  have e : a ^^^ b = (a ^^^ b) >>> k := by
    rw [Nat.shiftRight_xor_distrib]
    have : (a ^^^ a >>> k) ^^^ (b ^^^ b >>> k) = 0 := by rw [h, Nat.xor_self]
    have h2 : (a ^^^ b) ^^^ (a >>> k ^^^ b >>> k) = 0 := by
      rw [← this]; ac_rfl
    exact xor_zero_eq h2
  rw [Nat.shiftRight_eq_div_pow] at e
  have : a ^^^ b = 0 := by
    rcases Nat.eq_zero_or_pos (a ^^^ b) with h0 | h0
    · exact h0
    · have := Nat.div_lt_self h0 (show 1 < 2 ^ k by omega)
      omega
  exact xor_zero_eq this
theorem mul_inj (a b c d : Nat) (ha : a < 18446744073709551616) (hb : b < 18446744073709551616) (hcd : c * d % 18446744073709551616 = 1) (h : a * c % 18446744073709551616 = b * c % 18446744073709551616) : a = b := by
  have k : ∀ x : Nat, x < 18446744073709551616 → (x * c % 18446744073709551616) * d % 18446744073709551616 = x := fun x hx => by
    rw [Nat.mod_mul_mod, Nat.mul_assoc, Nat.mul_mod, hcd, Nat.mul_one, Nat.mod_mod, Nat.mod_eq_of_lt hx]
  rw [← k a ha, ← k b hb, h]
theorem xs31 (a b : Nat) (h : a ^^^ a / 2147483648 = b ^^^ b / 2147483648) : a = b := xs_inj a b 2147483648 (by omega) ⟨31, by decide⟩ h
theorem xs27 (a b : Nat) (h : a ^^^ a / 134217728 = b ^^^ b / 134217728) : a = b := xs_inj a b 134217728 (by omega) ⟨27, by decide⟩ h
theorem xs30 (a b : Nat) (h : a ^^^ a / 1073741824 = b ^^^ b / 1073741824) : a = b := xs_inj a b 1073741824 (by omega) ⟨30, by decide⟩ h
theorem mu1 (a b : Nat) (ha : a < 18446744073709551616) (hb : b < 18446744073709551616) (h : a * 10723151780598845931 % 18446744073709551616 = b * 10723151780598845931 % 18446744073709551616) : a = b :=
  mul_inj a b 10723151780598845931 3573116690164977347 ha hb (by decide +kernel) h
theorem mu2 (a b : Nat) (ha : a < 18446744073709551616) (hb : b < 18446744073709551616) (h : a * 13787848793156543929 % 18446744073709551616 = b * 13787848793156543929 % 18446744073709551616) : a = b :=
  mul_inj a b 13787848793156543929 10871156337175269513 ha hb (by decide +kernel) h
theorem mixN_inj (a b : Nat) (ha : a < 18446744073709551616) (hb : b < 18446744073709551616) (h : mixN a = mixN b) : a = b := by
  unfold mixN at h
  exact xs30 _ _ (mu2 _ _ (xs_lt _ _ ha) (xs_lt _ _ hb) (xs27 _ _ (mu1 _ _ (xs_lt _ _ (Nat.mod_lt _ (by omega))) (xs_lt _ _ (Nat.mod_lt _ (by omega))) (xs31 _ _ h))))
theorem nxD_inj {a b : Int} (ha : U64 a) (hb : U64 b) (h : nxD a = nxD b) : a = b := by
  have h1 : stp a = stp b := by
    have e := mix_nat (stp a).toNat (stp_u a).toNat
    have e' := mix_nat (stp b).toNat (stp_u b).toNat
    rw [(stp_u a).cast] at e
    rw [(stp_u b).cast] at e'
    unfold nxD at h
    rw [e, e'] at h
    have := mixN_inj _ _ (stp_u a).toNat (stp_u b).toNat (by omega)
    rw [← (stp_u a).cast, ← (stp_u b).cast, this]
  unfold stp at h1
  rw [IntKind.wrap_u64, IntKind.wrap_u64] at h1
  unfold U64 at ha hb
  omega

/-- The upper half of a product. -/
def hi64 (x n : Int) : Int := ((x.toNat * n.toNat / 18446744073709551616 : Nat) : Int)
/-- The number below n. -/
def blw (s n : Int) : Int := hi64 (nxD s) n
theorem hi64_u {x n : Int} (hx : U64 x) (hn : U64 n) : U64 (hi64 x n) := by
  have h : x.toNat * n.toNat ≤ x.toNat * 18446744073709551616 := Nat.mul_le_mul_left _ (Nat.le_of_lt hn.toNat)
  have h2 : x.toNat * n.toNat / 18446744073709551616 ≤ x.toNat := by omega
  have := hx.toNat
  unfold hi64 U64; omega
theorem blw_u (s : Int) {n : Int} (hn : U64 n) : U64 (blw s n) := hi64_u (nxD_u s) hn
theorem hi64_lt {x n : Int} (hx : U64 x) (hn : 0 < n) : hi64 x n < n := by
  have h := hx.toNat
  have h2 : x.toNat * n.toNat < 18446744073709551616 * n.toNat := Nat.mul_lt_mul_of_pos_right h (by omega)
  have h3 : x.toNat * n.toNat / 18446744073709551616 < n.toNat := by omega
  unfold hi64; omega
theorem blw_lt (s : Int) {n : Int} (hn : 0 < n) : blw s n < n := hi64_lt (nxD_u s) hn
theorem blw_zero (s : Int) : blw s 0 = 0 := by unfold blw hi64; simp
theorem blw_nonneg (s n : Int) : 0 ≤ blw s n := by unfold blw hi64; omega

/-- What the reference's Below comes to, as the walk spells it. -/
def refB (x n : Int) : Int :=
  let W := IntKind.u64.wrap
  let M : Int := 4294967296
  W (W (W (W (x.tdiv M) * W (n.tdiv M)) + W ((W (W (W (x.tdiv M) * n.tmod M) + W ((W (x.tmod M * n.tmod M)).tdiv M))).tdiv M)) + W ((W (W (x.tmod M * W (n.tdiv M)) + (W (W (W (x.tdiv M) * n.tmod M) + W ((W (x.tmod M * n.tmod M)).tdiv M))).tmod M)).tdiv M))
theorem refB_eq {x n : Int} (hx : U64 x) (hn : U64 n) : refB x n = hi64 x n := by
  obtain ⟨X, rfl⟩ := Int.eq_ofNat_of_zero_le hx.1
  obtain ⟨N, rfl⟩ := Int.eq_ofNat_of_zero_le hn.1
  have hX : X < 18446744073709551616 := by have := hx.2; omega
  have hN : N < 18446744073709551616 := by have := hn.2; omega
  obtain ⟨bd, bt, bw, hhi⟩ := Lib.mul64_hi X N hX hN
  have ha := Lib.half_mul_le (a := X / 4294967296) (b := N / 4294967296) (by omega) (by omega)
  have hb := Lib.half_mul_le (a := X / 4294967296) (b := N % 4294967296) (by omega) (by omega)
  have hc := Lib.half_mul_le (a := X % 4294967296) (b := N / 4294967296) (by omega) (by omega)
  have hd := Lib.half_mul_le (a := X % 4294967296) (b := N % 4294967296) (by omega) (by omega)
  have wr : ∀ k : Nat, k < 18446744073709551616 → IntKind.u64.wrap (k : Int) = (k : Int) := fun k hk => by rw [IntKind.wrap_u64]; omega
  have td : ∀ k : Nat, (k : Int).tdiv 4294967296 = ((k / 4294967296 : Nat) : Int) := fun k => by rw [Int.tdiv_eq_ediv_of_nonneg (by omega)]; omega
  have tm : ∀ k : Nat, (k : Int).tmod 4294967296 = ((k % 4294967296 : Nat) : Int) := fun k => by rw [Int.tmod_eq_emod_of_nonneg (by omega)]; omega
  have mu : ∀ a b : Nat, (a : Int) * (b : Int) = ((a * b : Nat) : Int) := fun a b => (Int.natCast_mul a b).symm
  have ad : ∀ a b : Nat, (a : Int) + (b : Int) = ((a + b : Nat) : Int) := fun a b => (Int.natCast_add a b).symm
  unfold refB hi64
  dsimp only
  rw [Int.toNat_natCast, Int.toNat_natCast, ← hhi]
  simp only [td, tm]
  rw [wr (X / 4294967296) (by omega), wr (N / 4294967296) (by omega)]
  simp only [mu]
  rw [wr _ bd, td, wr _ (by omega : X % 4294967296 * (N % 4294967296) / 4294967296 < 18446744073709551616)]
  generalize (X / 4294967296) * (N / 4294967296) = a at *
  generalize (X / 4294967296) * (N % 4294967296) = b at *
  generalize (X % 4294967296) * (N / 4294967296) = c at *
  generalize (X % 4294967296) * (N % 4294967296) = d at *
  rw [wr a (by omega), wr b (by omega), wr c (by omega), ad, wr _ bt, td, tm, wr ((b + d / 4294967296) / 4294967296) (by omega), ad, ad, wr _ (by omega), wr _ (by omega : c + (b + d / 4294967296) % 4294967296 < 18446744073709551616), td, wr ((c + (b + d / 4294967296) % 4294967296) / 4294967296) (by omega), ad, wr _ (by omega)]
  omega

end Go.Proofs.YtfopglaagnbacaaDoor
