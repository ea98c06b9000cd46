/- Plain facts on sets of bits: a function that tells of each place whether it is a one, and the words and bytes that it makes; no condition. -/
import Derived.WalkKit
import Derived.Laws.Bits64
import Derived.Laws.Bits64b
namespace Go.Proofs.Ytdlplablojdjlaa
open Go Go.RowKit

/-- The number whose first n binary places are those of f. -/
def pk (f : Nat → Bool) : Nat → Nat
  | 0 => 0
  | n + 1 => pk f n ||| (if f n then 2 ^ n else 0)
theorem testBit_pk (f : Nat → Bool) (n i : Nat) : (pk f n).testBit i = (decide (i < n) && f i) := by
  induction n with
  | zero => simp [pk]
  | succ n ih =>
    rw [pk, Nat.testBit_or, ih]
    by_cases hf : f n = true
    · rw [if_pos hf, Nat.testBit_two_pow]
      by_cases hi : i = n
      · subst hi; simp [hf]
      · have : (decide (n = i)) = false := by simp; omega
        rw [this, Bool.or_false]
        congr 1
        simp; omega
    · rw [if_neg hf, Nat.zero_testBit, Bool.or_false]
      by_cases hi : i = n
      · subst hi; simp at hf; simp [hf]
      · congr 1
        simp; omega
theorem pk_lt (f : Nat → Bool) (n : Nat) : pk f n < 2 ^ n := by
  apply Nat.lt_pow_two_of_testBit
  intro i hi
  rw [testBit_pk]
  have : ¬ i < n := by omega
  simp [this]
theorem pk_ext {f g : Nat → Bool} {n : Nat} (h : ∀ i, i < n → f i = g i) : pk f n = pk g n := by
  apply Nat.eq_of_testBit_eq
  intro i
  rw [testBit_pk, testBit_pk]
  by_cases hi : i < n
  · rw [h i hi]
  · simp [hi]
theorem pk_inj {f g : Nat → Bool} {n : Nat} (h : pk f n = pk g n) : ∀ i, i < n → f i = g i := by
  intro i hi
  have := congrArg (·.testBit i) h
  simp only [testBit_pk, hi, decide_true, Bool.true_and] at this
  exact this
theorem pk_false (n : Nat) : pk (fun _ => false) n = 0 := by
  induction n with
  | zero => rfl
  | succ n ih => rw [pk, ih]; simp
/-- The word, the byte at a place. -/
def wd (f : Nat → Bool) (k : Nat) : Nat := pk (fun j => f (64 * k + j)) 64
def byt (f : Nat → Bool) (k : Nat) : Nat := pk (fun j => f (8 * k + j)) 8
theorem wd_lt (f : Nat → Bool) (k : Nat) : wd f k < 18446744073709551616 := pk_lt _ 64
theorem byt_lt (f : Nat → Bool) (k : Nat) : byt f k < 256 := pk_lt _ 8
theorem testBit_wd (f : Nat → Bool) (k i : Nat) : (wd f k).testBit i = (decide (i < 64) && f (64 * k + i)) := testBit_pk _ _ _
theorem testBit_byt (f : Nat → Bool) (k i : Nat) : (byt f k).testBit i = (decide (i < 8) && f (8 * k + i)) := testBit_pk _ _ _
theorem wd_false (k : Nat) : wd (fun _ => false) k = 0 := pk_false 64

/-- All ones of a word. -/
theorem testBit_ones (i : Nat) : (18446744073709551615 : Nat).testBit i = decide (i < 64) := Nat.testBit_two_pow_sub_one (n := 64) (i := i)
theorem bits_andNot_u64_nat (a b : Nat) (ha : a < 18446744073709551616) (hb : b < 18446744073709551616) :
    bits .andNot .u64 (a : Int) (b : Int) = ((a &&& (18446744073709551615 ^^^ b) : Nat) : Int) := by
  have h1 : (BitVec.ofInt 64 (a : Int)).toNat = a := by
    rw [BitVec.ofInt_natCast, BitVec.toNat_ofNat]; exact Nat.mod_eq_of_lt (by omega)
  have h2 : (BitVec.ofInt 64 (b : Int)).toNat = b := by
    rw [BitVec.ofInt_natCast, BitVec.toNat_ofNat]; exact Nat.mod_eq_of_lt (by omega)
  show IntKind.u64.wrap ((BitVec.ofInt 64 (a : Int) &&& ~~~ BitVec.ofInt 64 (b : Int)).toNat : Int) = _
  have h3 : (BitVec.ofInt 64 (a : Int) &&& ~~~ BitVec.ofInt 64 (b : Int)).toNat = a &&& (18446744073709551615 ^^^ b) := by
    rw [BitVec.toNat_and, h1, BitVec.toNat_not, h2]
    congr 1
    apply Nat.eq_of_testBit_eq
    intro i
    rw [show (2 ^ 64 - 1 - b : Nat) = 2 ^ 64 - (b + 1) by omega, Nat.testBit_two_pow_sub_succ (by omega), Nat.testBit_xor, testBit_ones]
    by_cases hi : i < 64
    · simp [hi]
    · have : b.testBit i = false := Nat.testBit_lt_two_pow (Nat.lt_of_lt_of_le (show b < 2 ^ 64 by omega) (Nat.pow_le_pow_right (by omega) (by omega)))
      simp [hi, this]
  rw [h3, IntKind.wrap_u64]
  have : a &&& (18446744073709551615 ^^^ b) < 2 ^ 64 := Nat.and_lt_two_pow _ (Nat.xor_lt_two_pow (by omega) (by omega))
  omega
theorem tb_hi {a n i : Nat} (h : a < 2 ^ n) (hi : n ≤ i) : a.testBit i = false :=
  Nat.testBit_lt_two_pow (Nat.lt_of_lt_of_le h (Nat.pow_le_pow_right (by omega) hi))

/-- Ones from a place of a word to another one. -/
def seg (lo hi : Nat) : Nat := pk (fun i => decide (lo ≤ i) && decide (i < hi)) 64
theorem seg_lt (lo hi : Nat) : seg lo hi < 18446744073709551616 := pk_lt _ 64
theorem seg_eq (lo hi : Nat) (h1 : lo < hi) (h2 : hi ≤ 64) : IntKind.u64.wrap (18446744073709551615 / 2 ^ (64 - (hi - lo)) * 2 ^ lo) = (seg lo hi : Int) := by
  have e : (18446744073709551615 / 2 ^ (64 - (hi - lo)) * 2 ^ lo % 18446744073709551616 : Nat) = seg lo hi := by
    apply Nat.eq_of_testBit_eq
    intro i
    unfold seg
    rw [testBit_pk, show (18446744073709551616 : Nat) = 2 ^ 64 from rfl, Nat.testBit_mod_two_pow, ← Nat.shiftRight_eq_div_pow, ← Nat.shiftLeft_eq, Nat.testBit_shiftLeft, Nat.testBit_shiftRight, testBit_ones]
    by_cases a : i < 64 <;> by_cases b : lo ≤ i <;> by_cases c : i < hi <;> simp [a, b, c] <;> omega
  rw [IntKind.wrap_u64, ← e]
  simp
theorem seg_at (q k r e x : Nat) (hk : k = 64 * q + r) (h2 : k < e) (h3 : e ≤ 64 * q + 64) (hx : x = 64 - (e - k)) : IntKind.u64.wrap (18446744073709551615 / 2 ^ x * 2 ^ r) = (seg r (e - 64 * q) : Int) := by
  rw [← seg_eq r (e - 64 * q) (by omega) (by omega), hx, show e - k = e - 64 * q - r by omega]

/-- Filling from a place to another one. -/
def fil (f : Nat → Bool) (i j : Nat) (one : Bool) : Nat → Bool := fun x => if i ≤ x ∧ x < j then one else f x
theorem fil_self (f : Nat → Bool) (i : Nat) (one : Bool) : fil f i i one = f := by
  funext x
  unfold fil
  rw [if_neg (by omega)]
theorem fil_fil (f : Nat → Bool) (i k e : Nat) (one : Bool) (h1 : i ≤ k) (h2 : k ≤ e) : fil (fil f i k one) k e one = fil f i e one := by
  funext x
  unfold fil
  by_cases a : k ≤ x ∧ x < e
  · rw [if_pos a, if_pos (by omega)]
  · rw [if_neg a]
    by_cases b : i ≤ x ∧ x < k
    · rw [if_pos b, if_pos (by omega)]
    · rw [if_neg b, if_neg (by omega)]
theorem wd_fil_out (f : Nat → Bool) (q lo hi k : Nat) (one : Bool) (hk : k ≠ q) (hh : hi ≤ 64) : wd (fil f (64 * q + lo) (64 * q + hi) one) k = wd f k := by
  apply pk_ext
  intro i hi2
  show (if _ then _ else _) = _
  rw [if_neg (by omega)]
theorem wd_fil_or (f : Nat → Bool) (q lo hi : Nat) : bits .or .u64 (wd f q : Int) (seg lo hi : Int) = (wd (fil f (64 * q + lo) (64 * q + hi) true) q : Int) := by
  rw [bits_or_u64_nat _ _ (wd_lt _ _) (seg_lt _ _)]
  congr 1
  apply Nat.eq_of_testBit_eq
  intro i
  rw [Nat.testBit_or, testBit_wd, testBit_wd, seg, testBit_pk]
  unfold fil
  by_cases a : i < 64
  · by_cases b : 64 * q + lo ≤ 64 * q + i ∧ 64 * q + i < 64 * q + hi
    · rw [if_pos b]; have b1 : lo ≤ i := by omega
      have b2 : i < hi := by omega
      simp [a, b1, b2]
    · rw [if_neg b]
      by_cases c : lo ≤ i
      · have : ¬ i < hi := by omega
        simp [this]
      · simp [c]
  · simp [a]
theorem wd_fil_not (f : Nat → Bool) (q lo hi : Nat) : bits .andNot .u64 (wd f q : Int) (seg lo hi : Int) = (wd (fil f (64 * q + lo) (64 * q + hi) false) q : Int) := by
  rw [bits_andNot_u64_nat _ _ (wd_lt _ _) (seg_lt _ _)]
  congr 1
  apply Nat.eq_of_testBit_eq
  intro i
  rw [Nat.testBit_and, Nat.testBit_xor, testBit_ones, testBit_wd, testBit_wd, seg, testBit_pk]
  unfold fil
  by_cases a : i < 64
  · by_cases b : 64 * q + lo ≤ 64 * q + i ∧ 64 * q + i < 64 * q + hi
    · rw [if_pos b]; have b1 : lo ≤ i := by omega
      have b2 : i < hi := by omega
      simp [a, b1, b2]
    · rw [if_neg b]
      by_cases c : lo ≤ i
      · have : ¬ i < hi := by omega
        simp [a, this]
      · simp [a, c]
  · simp [a]

/-- The places of so many bytes. -/
def ofB (bs : List Nat) (i : Nat) : Nat → Bool := fun x => decide (x < 8 * i) && (bs.getD (x / 8) 0).testBit (x % 8)
theorem ofB_zero (bs : List Nat) : ofB bs 0 = fun _ => false := by
  funext x
  simp [ofB]
theorem wd_ofB_out (bs : List Nat) (i k : Nat) (hk : k ≠ i / 8) : wd (ofB bs (i + 1)) k = wd (ofB bs i) k := by
  apply pk_ext
  intro j hj
  unfold ofB
  congr 1
  simp; omega
theorem wd_ofB_in (bs : List Nat) (i : Nat) (hb : bs.getD i 0 < 256) : bits .or .u64 (wd (ofB bs i) (i / 8) : Int) (IntKind.u64.wrap (((bs.getD i 0 : Nat) : Int) * 2 ^ (8 * (i % 8)))) = (wd (ofB bs (i + 1)) (i / 8) : Int) := by
  have e1 : bs.getD i 0 * 2 ^ (8 * (i % 8)) < 2 ^ 64 := by
    have h1 : (2 : Nat) ^ (8 * (i % 8)) ≤ 2 ^ 56 := Nat.pow_le_pow_right (by omega) (by omega)
    have h2 := Nat.mul_le_mul (show bs.getD i 0 ≤ 255 by omega) h1
    omega
  have e2 : IntKind.u64.wrap (((bs.getD i 0 : Nat) : Int) * 2 ^ (8 * (i % 8))) = ((bs.getD i 0 * 2 ^ (8 * (i % 8)) : Nat) : Int) := by
    rw [IntKind.wrap_u64]
    have : ((bs.getD i 0 : Nat) : Int) * 2 ^ (8 * (i % 8)) = ((bs.getD i 0 * 2 ^ (8 * (i % 8)) : Nat) : Int) := by simp
    rw [this]
    omega
  rw [e2, bits_or_u64_nat _ _ (wd_lt _ _) e1]
  congr 1
  apply Nat.eq_of_testBit_eq
  intro j
  rw [Nat.testBit_or, testBit_wd, testBit_wd, ← Nat.shiftLeft_eq, Nat.testBit_shiftLeft]
  unfold ofB
  by_cases a : j < 64
  · by_cases b : 64 * (i / 8) + j < 8 * i
    · have c : 64 * (i / 8) + j < 8 * (i + 1) := by omega
      have d : ¬ (8 * (i % 8) ≤ j) := by omega
      simp [a, b, c, d]
    · by_cases c : 64 * (i / 8) + j < 8 * (i + 1)
      · have d : 8 * (i % 8) ≤ j := by omega
        have e3 : (64 * (i / 8) + j) / 8 = i := by omega
        have e4 : (64 * (i / 8) + j) % 8 = j - 8 * (i % 8) := by omega
        rw [e3, e4]
        simp [a, b, c, d]
      · have d : 8 ≤ j - 8 * (i % 8) := by omega
        have : (bs.getD i 0).testBit (j - 8 * (i % 8)) = false := tb_hi (n := 8) (by omega) d
        rw [this]
        simp [b, c]
  · have : (bs.getD i 0).testBit (j - 8 * (i % 8)) = false := tb_hi (n := 8) (by omega) (by omega)
    rw [this]
    simp [a]

/-- Ones where the last word has bits. -/
def msk (n : Nat) : Nat := 18446744073709551615 / 2 ^ ((64 - n % 64) % 64)
theorem testBit_msk (n i : Nat) : (msk n).testBit i = decide (i + (64 - n % 64) % 64 < 64) := by
  unfold msk
  rw [← Nat.shiftRight_eq_div_pow, Nat.testBit_shiftRight, testBit_ones, Nat.add_comm]
theorem msk_lt (n : Nat) : msk n < 18446744073709551616 := Nat.lt_of_le_of_lt (Nat.div_le_self _ _) (by decide)
theorem msk_eq (n : Nat) : (18446744073709551615 : Int) / 2 ^ (-((n : Int) % 64) % 64).toNat = (msk n : Int) := by
  have : (-((n : Int) % 64) % 64).toNat = (64 - n % 64) % 64 := by omega
  rw [this]
  unfold msk
  simp
/-- No ones behind the last place, in the last word. -/
theorem msk_none (f : Nat → Bool) (n L : Nat) (hL : 64 * L < n) (hL2 : n ≤ 64 * L + 64) :
    bits .andNot .u64 (wd f L : Int) (msk n : Int) = 0 ↔ ∀ x, n ≤ x → x < 64 * L + 64 → f x = false := by
  rw [bits_andNot_u64_nat _ _ (wd_lt _ _) (msk_lt _)]
  constructor
  · intro h x h1 h2
    have h0 : wd f L &&& (18446744073709551615 ^^^ msk n) = 0 := by omega
    have := congrArg (·.testBit (x - 64 * L)) h0
    simp only [Nat.testBit_and, Nat.testBit_xor, testBit_ones, testBit_msk, testBit_wd, Nat.zero_testBit] at this
    have a : x - 64 * L < 64 := by omega
    have b : ¬ (x - 64 * L + (64 - n % 64) % 64 < 64) := by omega
    have c : 64 * L + (x - 64 * L) = x := by omega
    simpa [a, b, c] using this
  · intro h
    have : wd f L &&& (18446744073709551615 ^^^ msk n) = 0 := by
      apply Nat.eq_of_testBit_eq
      intro i
      rw [Nat.testBit_and, Nat.testBit_xor, testBit_ones, testBit_msk, testBit_wd, Nat.zero_testBit]
      by_cases a : i < 64
      · by_cases b : i + (64 - n % 64) % 64 < 64
        · simp [a, b]
        · rw [h (64 * L + i) (by omega) (by omega)]; simp
      · simp [a]
    omega
/-- A byte of a word. -/
theorem byt_eq (f : Nat → Bool) (i : Nat) : IntKind.u8.wrap ((wd f (i / 8) : Int) / 2 ^ (8 * (i % 8))) = (byt f i : Int) := by
  have e : (wd f (i / 8) / 2 ^ (8 * (i % 8)) % 256 : Nat) = byt f i := by
    apply Nat.eq_of_testBit_eq
    intro j
    rw [show (256 : Nat) = 2 ^ 8 from rfl, Nat.testBit_mod_two_pow, ← Nat.shiftRight_eq_div_pow, Nat.testBit_shiftRight, testBit_wd, testBit_byt]
    by_cases a : j < 8
    · have b : 8 * (i % 8) + j < 64 := by omega
      have c : 64 * (i / 8) + (8 * (i % 8) + j) = 8 * i + j := by omega
      simp [a, b, c]
    · simp [a]
  rw [← e]
  simp [IntKind.wrap, IntKind.bits, IntKind.signed]
theorem byt_ofB (bs : List Nat) (n i : Nat) (hi : i < n) (hb : bs.getD i 0 < 256) : byt (ofB bs n) i = bs.getD i 0 := by
  apply Nat.eq_of_testBit_eq
  intro j
  rw [testBit_byt]
  unfold ofB
  by_cases a : j < 8
  · have b : 8 * i + j < 8 * n := by omega
    have c : (8 * i + j) / 8 = i := by omega
    have d : (8 * i + j) % 8 = j := by omega
    simp [a, b, c, d]
  · rw [tb_hi (a := bs.getD i 0) (n := 8) (by omega) (by omega)]
    simp [a]
end Go.Proofs.Ytdlplablojdjlaa
