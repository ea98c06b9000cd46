/- Texts of this claim, laid together by a program of its own: BitsC, BitsN, BitsH, RefB, Join, DrawM, DrawA, RaA, RaB, RaC, RaD, RaE. Each says in its first row what it proves. -/
import Derived.Shelf.Spec.TrailingZeros
import Derived.Deep.QuietTactic
import Derived.BigQuiet
import Derived.WalkKit
import Derived.Lib.Mul64
import Derived.Test.YtjmfhcliggjdgaaDoorRows
import Derived.WalkSpells
import Derived.WalkLawsBesides
import Derived.Lib.Hide
import Derived.Test.YtjmfhcliggjdgaaDoorQ2
/- Package bits: how many ones; no condition. -/
namespace Go.Proofs.YtjmfhcliggjdgaaDoor
open Go Go.RowKit Go.IntWalk
set_option maxHeartbeats 400000 in
theorem onesAny (h : Nat → Bool) (x : Nat) (hx : x = pk h 64) (w : World) : Calls Tryd.prog 31 #[.int .u64 x] w fun e w' => e = .returned (.int .i64 (cnt h 64 : Nat)) ∧ w = w' := by
  obtain ⟨x1, x2, x3, x4, x5, x6, e1, e2, e3, e4, e5, e6, e7⟩ := pop_steps h
  rw [← hx] at e1
  clear hx
  have E7 := Lib.hid e7
  clear e7
  go_enter Tryd.func31, Tryd.ntmps31
  go_wp2_with fail
  go_ret
  exact ⟨congrArg (fun v => Ending.returned (.int .i64 v)) (by rw [← i64_left, E7.out]), rfl⟩

theorem cnt_words (f : Nat → Bool) (k : Nat) : cnt f (64 * (k + 1)) = cnt f (64 * k) + cnt (fun j => f (64 * k + j)) 64 := by
  rw [show 64 * (k + 1) = 64 * k + 64 by omega, cnt_add]

set_option maxHeartbeats 400000 in
theorem bitsCount (b g n : Nat) (f : Nat → Bool) (w : World) (h : BSet w b g n f) :
    Calls Tryd.prog 11 #[.pointer (some ⟨b, 0, none⟩)] w fun e w' => e = .returned (.int .i64 (cnt f n : Nat)) ∧ w = w' := by
  obtain ⟨c, d3⟩ := h.s1
  have hsm := h.small
  have H := Lib.hid h
  clear h
  obtain ⟨m, hm⟩ : ∃ m, m = (n + 63) / 64 := ⟨_, rfl⟩
  have hm9 : m ≤ 1024 := by omega
  have HM := Lib.hid hm
  rw [← hm] at d3
  clear hm hsm
  go_enter Tryd.func11, Tryd.ntmps11
  go_wp2_with fail
  go_loopw [3, 11] (fun s i wr => ∃ k : Nat, k ≤ m ∧ i = .int .i64 k ∧ s = .int .i64 (cnt f (64 * k) : Nat) ∧ wr = w) (fun _ i _ => m - (intOf i).toNat)
  case atStart => exact ⟨0, by omega, rfl, rfl, rfl⟩
  case round =>
    obtain ⟨k, hk, rfl, rfl, rfl⟩ := hrel
    by_cases hlt : k < m
    · obtain ⟨d1, _⟩ := H.out.word (k := k) (by rw [← HM.out]; exact hlt)
      have hc := cnt_words f k
      have hc2 := cnt_le (fun j => f (64 * k + j)) 64
      have hc3 := cnt_le f (64 * k)
      obtain ⟨W, hW⟩ : ∃ W, W = wd f k := ⟨_, rfl⟩
      rw [← hW] at d1
      obtain ⟨c1, hc1⟩ : ∃ c1, c1 = cnt f (64 * k) := ⟨_, rfl⟩
      obtain ⟨c2, hc2'⟩ : ∃ c2, c2 = cnt (fun j => f (64 * k + j)) 64 := ⟨_, rfl⟩
      rw [← hc1] at hc3 hc ⊢
      rw [← hc2'] at hc hc2
      have HC := Lib.hid hc
      have HW := Lib.hid hW
      have HC2 := Lib.hid hc2'
      clear hc hW hc1 hc2'
      go_wp2_with fail
      refine (onesAny (fun j => f (64 * k + j)) W (by rw [HW.out]; rfl) _).mono ?_; rintro e w' ⟨rfl, rfl⟩
      rw [← HC2.out]
      go_wp2_with fail
      exact ⟨⟨k + 1, by omega, by go_num, by rw [HC.out]; simp, trivial⟩, by simp [intOf]; omega⟩
    · have hkm : k = m := by omega
      have e : cnt f (64 * k) = cnt f n := cnt_out H.out.out _ (by rw [hkm, HM.out]; omega)
      rw [e]
      clear e hkm
      go_wp2_with fail
      go_ret
      exact ⟨rfl, rfl⟩
end Go.Proofs.YtjmfhcliggjdgaaDoor

/- Package bits: Next, Has; no condition but the library's table. -/
namespace Go.Proofs.YtjmfhcliggjdgaaDoor
open Go Go.RowKit Go.IntWalk

/-- The library's table, in its variable. -/
def gTab : Nat := 0
def TabW (w : World) : Prop := TabAt gTab Lib.deBruijn64tab w
theorem TabW.mod {S : Nat → Prop} {w w' : World} (h : TabW w) (hm : Mod S w w') (hS : ¬ S gTab) : TabW w' := fun j hj => hm.cell (h j hj) hS
theorem TabW.drewN {w : World} (h : TabW w) (k : Nat) : TabW (w.drewN k) := h
theorem TabW.lt {w : World} (h : TabW w) : gTab < w.heap.size := World.block_lt_of_cell? w _ (h 0 (by decide))

theorem IntKind.wrap_u64_mod (n : Int) : IntKind.u64.wrap n = n % 18446744073709551616 := IntKind.wrap_u64 n
set_option maxRecDepth 100000 in
set_option maxHeartbeats 1000000 in
theorem tz_core (x k idx : Nat) (w : World) (hx0 : ((x : Int) == 0) = false)
    (key : IntKind.u64.wrap (bits BinOp.and IntKind.u64 (x : Int) (IntKind.u64.wrap (-(x : Int))) * 285870213051353865) / 288230376151711744 = (idx : Int))
    (hi : idx < 64) (hk : k < 64) (hcell : w.cell? ⟨gTab, idx, none⟩ = some (.int .u8 k)) :
    Calls Tryd.prog 54 #[.int .u64 x] w fun e w' => e = .returned (.int .i64 k) ∧ w = w' := by
  unfold gTab at hcell
  go_enter Tryd.func54, Tryd.ntmps54
  go_wp2_with (simp only [key])
  go_ret
  exact ⟨rfl, rfl⟩
theorem tzAny (x : Nat) (hx : x < 18446744073709551616) (hx0 : x ≠ 0) (w : World) (hT : TabW w) :
    Calls Tryd.prog 54 #[.int .u64 x] w fun e w' => e = .returned (.int .i64 (Lib.ctz 64 x : Nat)) ∧ w = w' := by
  obtain ⟨hlow, hk⟩ := Lib.lowest_bit 64 x hx0 hx
  obtain ⟨hi, htab⟩ := Lib.deBruijn64_at _ hk
  have hcell := hT _ hi
  rw [htab] at hcell
  exact tz_core x _ _ w (by simp; omega) (tz64_key x _ hx hx0 hlow) hi hk hcell

/-- The lowest one of a word. -/
theorem ctz_pk (h : Nat → Bool) (h0 : pk h 64 ≠ 0) : Lib.ctz 64 (pk h 64) < 64 ∧ h (Lib.ctz 64 (pk h 64)) = true ∧ ∀ j, j < Lib.ctz 64 (pk h 64) → h j = false := by
  unfold Lib.ctz
  rw [if_neg h0]
  obtain ⟨m, hm, hlt⟩ := Lib.ctzFrom_spec 64 (pk h 64) (by omega) (pk_lt h 64)
  generalize Lib.ctzFrom 64 (pk h 64) = c at *
  have hb : ∀ i, (pk h 64).testBit i = (decide (c ≤ i) && (2 * m + 1).testBit (i - c)) := by
    intro i
    rw [hm, Nat.mul_comm, Nat.testBit_mul_two_pow]
  refine ⟨hlt, ?_, fun j hj => ?_⟩
  · have h1 := hb c
    rw [testBit_pk] at h1
    simpa [hlt, Nat.testBit_zero] using h1
  · have h1 := hb j
    rw [testBit_pk] at h1
    have h2 : ¬ c ≤ j := by omega
    have h3 : j < 64 := by omega
    simpa [h2, h3] using h1
theorem pk_zero (h : Nat → Bool) (n : Nat) (h0 : pk h n = 0) : ∀ j, j < n → h j = false := by
  intro j hj
  have := testBit_pk h n j
  rw [h0, Nat.zero_testBit] at this
  simpa [hj] using this.symm
/-- All bits turned; the low ones struck; those behind the end struck. -/
theorem xor_pk (h : Nat → Bool) : bits .xor .u64 IntKind.u64.max (pk h 64 : Int) = (pk (fun j => h j == false) 64 : Int) := by
  have h1 : (BitVec.ofInt 64 (pk h 64 : Int)).toNat = pk h 64 := by
    rw [BitVec.ofInt_natCast, BitVec.toNat_ofNat]; exact Nat.mod_eq_of_lt (pk_lt h 64)
  have h2 : (BitVec.ofInt 64 IntKind.u64.max).toNat = 18446744073709551615 := by decide
  show IntKind.u64.wrap ((BitVec.ofInt 64 IntKind.u64.max ^^^ BitVec.ofInt 64 (pk h 64 : Int)).toNat : Int) = _
  have e : (18446744073709551615 ^^^ pk h 64 : Nat) = pk (fun j => h j == false) 64 := by
    apply Nat.eq_of_testBit_eq
    intro i
    rw [Nat.testBit_xor, testBit_ones, testBit_pk, testBit_pk]
    by_cases hi : i < 64 <;> simp [hi]
  rw [BitVec.toNat_xor, h1, h2, e, IntKind.wrap_u64]
  have := pk_lt (fun j => h j == false) 64
  omega
theorem low_pk (h : Nat → Bool) (r : Nat) : IntKind.u64.wrap ((pk h 64 : Int) / 2 ^ r * 2 ^ r) = (pk (fun j => h j && decide (r ≤ j)) 64 : Int) := by
  have e : pk h 64 / 2 ^ r * 2 ^ r = pk (fun j => h j && decide (r ≤ j)) 64 := by
    apply Nat.eq_of_testBit_eq
    intro i
    rw [Nat.testBit_mul_two_pow, ← Nat.shiftRight_eq_div_pow, Nat.testBit_shiftRight, testBit_pk, testBit_pk]
    by_cases hr : r ≤ i
    · have e2 : r + (i - r) = i := by omega
      rw [e2]
      simp [hr]
    · simp [hr]
  have e2 : ((pk h 64 : Int) / 2 ^ r * 2 ^ r) = ((pk h 64 / 2 ^ r * 2 ^ r : Nat) : Int) := by simp
  rw [e2, e, IntKind.wrap_u64]
  have := pk_lt (fun j => h j && decide (r ≤ j)) 64
  omega
theorem msk_pk (h : Nat → Bool) (n k : Nat) (h1 : 64 * k < n) (h2 : n ≤ 64 * k + 64) : bits .and .u64 (pk h 64 : Int) (msk n : Int) = (pk (fun j => h j && decide (64 * k + j < n)) 64 : Int) := by
  rw [bits_and_u64_nat _ _ (pk_lt h 64) (msk_lt n)]
  congr 1
  apply Nat.eq_of_testBit_eq
  intro i
  rw [Nat.testBit_and, testBit_msk, testBit_pk, testBit_pk, Bool.and_assoc]
  by_cases hi : i < 64
  · have e : (i + (64 - n % 64) % 64 < 64) = (64 * k + i < n) := by simp; omega
    simp only [e]
  · simp [hi]

/-- The first place that is so, from one on, below n; -1: there is none. -/
def nxA (f : Nat → Bool) (one : Bool) : Nat → Nat → Int
  | 0, _ => -1
  | m + 1, k => if f k = one then k else nxA f one m (k + 1)
def nx (f : Nat → Bool) (one : Bool) (n k : Nat) : Int := nxA f one (n - k) k
theorem nxA_no (f : Nat → Bool) (one : Bool) : ∀ m k, (∀ i, k ≤ i → i < k + m → f i ≠ one) → nxA f one m k = -1
  | 0, _, _ => rfl
  | m + 1, k, h => by
    unfold nxA
    rw [if_neg (h k (by omega) (by omega))]
    exact nxA_no f one m (k + 1) (fun i h1 h2 => h i (by omega) (by omega))
theorem nxA_yes (f : Nat → Bool) (one : Bool) (i : Nat) (hi : f i = one) : ∀ m k, k ≤ i → i < k + m → (∀ j, k ≤ j → j < i → f j ≠ one) → nxA f one m k = i
  | 0, _, _, _, _ => by omega
  | m + 1, k, h1, h2, h => by
    unfold nxA
    by_cases e : k = i
    · subst e; rw [if_pos hi]
    · rw [if_neg (h k (by omega) (by omega))]
      exact nxA_yes f one i hi m (k + 1) (by omega) (by omega) (fun j h1 h2 => h j (by omega) h2)
theorem nx_no {f : Nat → Bool} {one : Bool} {n k : Nat} (h : ∀ i, k ≤ i → i < n → f i ≠ one) : nx f one n k = -1 := nxA_no f one _ _ fun i h1 h2 => h i h1 (by omega)
theorem nx_yes {f : Nat → Bool} {one : Bool} {n k i : Nat} (hi : f i = one) (h1 : k ≤ i) (h2 : i < n) (h : ∀ j, k ≤ j → j < i → f j ≠ one) : nx f one n k = i := nxA_yes f one i hi _ _ h1 (by omega) h
theorem nx_spec (f : Nat → Bool) (one : Bool) (n k : Nat) : (nx f one n k = -1 ∧ ∀ i, k ≤ i → i < n → f i ≠ one) ∨ ∃ i, nx f one n k = (i : Nat) ∧ k ≤ i ∧ i < n ∧ f i = one ∧ ∀ j, k ≤ j → j < i → f j ≠ one := by
  have key : ∀ m k, (nxA f one m k = -1 ∧ ∀ i, k ≤ i → i < k + m → f i ≠ one) ∨ ∃ i, nxA f one m k = (i : Nat) ∧ k ≤ i ∧ i < k + m ∧ f i = one ∧ ∀ j, k ≤ j → j < i → f j ≠ one := by
    intro m
    induction m with
    | zero => intro k; exact .inl ⟨rfl, fun i h1 h2 => by omega⟩
    | succ m ih =>
      intro k
      unfold nxA
      by_cases e : f k = one
      · rw [if_pos e]
        exact .inr ⟨k, rfl, Nat.le_refl _, by omega, e, fun j h1 h2 => by omega⟩
      · rw [if_neg e]
        rcases ih (k + 1) with ⟨h1, h2⟩ | ⟨i, h1, h2, h3, h4, h5⟩
        · refine .inl ⟨h1, fun i g1 g2 => ?_⟩
          by_cases g : i = k
          · subst g; exact e
          · exact h2 i (by omega) (by omega)
        · refine .inr ⟨i, h1, by omega, by omega, h4, fun j g1 g2 => ?_⟩
          by_cases g : j = k
          · subst g; exact e
          · exact h5 j (by omega) g2
  unfold nx
  rcases key (n - k) k with ⟨h1, h2⟩ | ⟨i, h1, h2, h3, h4, h5⟩
  · exact .inl ⟨h1, fun i g1 g2 => h2 i g1 (by omega)⟩
  · exact .inr ⟨i, h1, h2, by omega, h4, h5⟩

set_option maxRecDepth 100000 in
set_option maxHeartbeats 400000 in
theorem bitsNextOut (b g n : Nat) (f : Nat → Bool) (from' : Int) (one : Bool) (w : World) (h : BSet w b g n f) (hout : n ≤ from'.toNat) :
    Calls Tryd.prog 40 #[.pointer (some ⟨b, 0, none⟩), .int .i64 from', .bool one] w fun e w' => e = .returned (.int .i64 (nx f one n from'.toNat)) ∧ w = w' := by
  have d0 := h.n0
  have hmax : max from' 0 = (from'.toNat : Int) := by omega
  have hx : nx f one n from'.toNat = -1 := nx_no fun i h1 h2 => by omega
  rw [hx]
  generalize from'.toNat = fr at *
  have hout2 : (n : Int) ≤ fr := by omega
  clear h hx hout
  go_enter Tryd.func40, Tryd.ntmps40
  go_wp2_with fail
  go_ret
  exact ⟨rfl, rfl⟩

set_option maxRecDepth 100000 in
set_option maxHeartbeats 4000000 in
theorem bitsNextInTrue (b g n : Nat) (f : Nat → Bool) (from' : Int) (w : World) (h : BSet w b g n f) (hT : TabW w) (hin : from'.toNat < n) :
    Calls Tryd.prog 40 #[.pointer (some ⟨b, 0, none⟩), .int .i64 from', .bool true] w fun e w' => e = .returned (.int .i64 (nx f true n from'.toNat)) ∧ w = w' := by
  have d0 := h.n0
  have hsm := h.small
  have hmax : max from' 0 = (from'.toNat : Int) := by omega
  generalize from'.toNat = fr at *
  have HIN := Lib.hid hin
  have hin1 : decide (n ≤ fr) = false := by simpa using hin
  obtain ⟨c, d3⟩ := h.s1
  obtain ⟨m, hmm⟩ : ∃ m, m = (n + 63) / 64 := ⟨_, rfl⟩
  rw [← hmm] at d3
  have HM := Lib.hid hmm
  obtain ⟨q, hq⟩ : ∃ q : Nat, q = fr / 64 := ⟨_, rfl⟩
  obtain ⟨r, hr⟩ : ∃ r : Nat, r = fr % 64 := ⟨_, rfl⟩
  have hqq : (fr : Int) / 64 = q := by omega
  have hrr : fr % 64 = r := hr.symm
  have hr64 : r < 64 := by omega
  have HQ := Lib.hid hq
  have HR := Lib.hid hr
  have H := Lib.hid h
  have hqm : q < m := by omega
  have hm9 : m ≤ 1024 := by omega
  have hm1 : (1 : Int) ≤ m := by omega
  clear hmm hq hr h hsm hin
  go_enter Tryd.func40, Tryd.ntmps40
  go_wp2_with fail
  go_loopw [7] (fun i wr => ∃ k : Nat, k ≤ m ∧ i = .int .i64 k ∧ q ≤ k ∧ Hid (∀ i, fr ≤ i → i < 64 * k → i < n → f i ≠ true) ∧ wr = w) (fun i _ => m - (intOf i).toNat)
  case atStart => exact ⟨q, by omega, rfl, Nat.le_refl _, fun i h1 h2 => by have := HQ.out; omega, rfl⟩
  case round =>
    obtain ⟨k, hk, rfl, hk2, hno, rfl⟩ := hrel
    by_cases hlt : k < m
    · obtain ⟨d1, _⟩ := H.out.word (k := k) (by rw [← HM.out]; exact hlt)
      have hmsk := bitsMask _ _ _ _ _ H.out.toBRaw
      have HMSK := Lib.hid hmsk
      have hpl := pk_lt
      have HPL := Lib.hid hpl
      clear hmsk hpl
      obtain ⟨A, hA⟩ : ∃ A : Nat → Bool, A = fun j => f (64 * k + j) == true := ⟨_, rfl⟩
      obtain ⟨W, hW⟩ : ∃ W, W = wd f k := ⟨_, rfl⟩
      rw [← hW] at d1
      obtain ⟨W1, hW1⟩ : ∃ W1, W1 = pk A 64 := ⟨_, rfl⟩
      have hs1 : W1 = W := by rw [hW, hW1, hA]; exact pk_ext (fun i _ => by simp)
      subst hs1
      clear hW
      have HW1 := Lib.hid hW1
      have HA := Lib.hid hA
      clear hW1 hA
      by_cases hkq : k = q
      · subst hkq
        by_cases hkl : k + 1 = m
        · have hkl2 : ((k : Int) == (m : Int) - 1) = true := by rw [beq_iff_eq]; omega
          have HKL := Lib.hid hkl; clear hkl
          obtain ⟨B, hB⟩ : ∃ B : Nat → Bool, B = fun j => A j && decide (r ≤ j) := ⟨_, rfl⟩
          obtain ⟨W2, hW2⟩ : ∃ W2, W2 = pk B 64 := ⟨_, rfl⟩
          have hsh : IntKind.u64.wrap ((W1 : Int) / 2 ^ r * 2 ^ r) = (W2 : Int) := by rw [HW1.out, hW2, hB]; exact low_pk A r
          have HW2 := Lib.hid hW2; have HB := Lib.hid hB; clear hW2 hB
          obtain ⟨D, hD⟩ : ∃ D : Nat → Bool, D = fun j => B j && decide (64 * k + j < n) := ⟨_, rfl⟩
          obtain ⟨W3, hW3⟩ : ∃ W3, W3 = pk D 64 := ⟨_, rfl⟩
          have hmk : bits .and .u64 (W2 : Int) (msk n : Int) = (W3 : Int) := by rw [HW2.out, hW3, hD]; exact msk_pk B n k (by have := HM.out; have := HKL.out; omega) (by have := HM.out; have := HKL.out; omega)
          have hDs : ∀ j, j < 64 → D j = ((f (64 * k + j) == true) && decide (fr ≤ 64 * k + j) && decide (64 * k + j < n)) := by
            intro j hj
            have h1 := HQ.out; have h2 := HR.out; have h3 := HM.out; have h4 := HKL.out
            rw [hD, HB.out, HA.out]
            have e1 : (fr ≤ 64 * k + j) = (r ≤ j) := by simp; omega
            simp only [e1]; try simp
          have HW3 := Lib.hid hW3; have HDS := Lib.hid hDs; clear hW3 hDs hD
          by_cases h0 : W3 = 0
          · have hnew : ∀ i, fr ≤ i → i < 64 * (k + 1) → i < n → f i ≠ true := by
              intro i h1 h2 h3
              by_cases h4 : i < 64 * k
              · exact hno.out i h1 h4 h3
              · have h5 := pk_zero D 64 (by rw [← HW3.out, h0]) (i - 64 * k) (by omega)
                rw [HDS.out _ (by omega), show 64 * k + (i - 64 * k) = i by omega] at h5
                simpa [h1, h3] using h5
            have HNEW := Lib.hid hnew
            subst h0
            clear hnew
            go_wp2_with fail
            refine HMSK.out.mono ?_; rintro e w' ⟨rfl, rfl⟩
            go_wp2_with fail
            go_roundw
            case rel => exact ⟨k + 1, by omega, by go_num, by omega, HNEW, by first | trivial | rfl⟩
            case measure => simp [intOf]; omega
          · obtain ⟨t1, t2, t3⟩ := ctz_pk D (by rw [← HW3.out]; exact h0)
            rw [← HW3.out] at t1 t2 t3
            rw [HDS.out _ t1] at t2
            simp only [Bool.and_eq_true, beq_iff_eq, decide_eq_true_eq] at t2
            obtain ⟨⟨t4, t5⟩, t6⟩ := t2
            have htz := tzAny W3 (by rw [HW3.out]; exact HPL.out D 64) h0 wr hT
            generalize hC : Lib.ctz 64 W3 = C at *
            have hx : nx f true n fr = (64 * k + C : Nat) := nx_yes t4 t5 t6 (fun j g1 g2 => by
              by_cases g4 : j < 64 * k
              · exact hno.out j g1 g4 (by omega)
              · have g5 := t3 (j - 64 * k) (by omega)
                rw [HDS.out _ (by omega), show 64 * k + (j - 64 * k) = j by omega] at g5
                have g6 : j < n := by omega
                simpa [g1, g6] using g5)
            have HX := Lib.hid hx
            have HTZ := Lib.hid htz
            have hne : ((W3 : Int) == 0) = false := by rw [beq_eq_false_iff_ne]; omega
            have hne2 : ((W3 : Int) != 0) = true := by rw [bne_iff_ne]; omega
            clear htz t3 t4 t5 t6 hx hC
            go_wp2_with fail
            refine HMSK.out.mono ?_; rintro e w' ⟨rfl, rfl⟩
            go_wp2_with fail
            refine HTZ.out.mono ?_; rintro e w' ⟨rfl, rfl⟩
            go_wp2_with fail
            go_ret
            exact ⟨by rw [HX.out]; exact congrArg (fun v => Ending.returned (Value.int .i64 v)) (show (k : Int) * 64 + (C : Int) = ((64 * k + C : Nat) : Int) by omega), rfl⟩
        · have hkl2 : ((k : Int) == (m : Int) - 1) = false := by rw [beq_eq_false_iff_ne]; omega
          have HKL := Lib.hid hkl; clear hkl
          obtain ⟨B, hB⟩ : ∃ B : Nat → Bool, B = fun j => A j && decide (r ≤ j) := ⟨_, rfl⟩
          obtain ⟨W2, hW2⟩ : ∃ W2, W2 = pk B 64 := ⟨_, rfl⟩
          have hsh : IntKind.u64.wrap ((W1 : Int) / 2 ^ r * 2 ^ r) = (W2 : Int) := by rw [HW1.out, hW2, hB]; exact low_pk A r
          have HW2 := Lib.hid hW2; have HB := Lib.hid hB; clear hW2 hB
          obtain ⟨D, hD⟩ : ∃ D : Nat → Bool, D = B := ⟨_, rfl⟩
          obtain ⟨W3, hW3⟩ : ∃ W3, W3 = pk D 64 := ⟨_, rfl⟩
          have h23 : W3 = W2 := by rw [hW3, hD, HW2.out]
          have hDs : ∀ j, j < 64 → D j = ((f (64 * k + j) == true) && decide (fr ≤ 64 * k + j) && decide (64 * k + j < n)) := by
            intro j hj
            have h1 := HQ.out; have h2 := HR.out; have h3 := HM.out; have h4 := HKL.out
            rw [hD, HB.out, HA.out]
            have e1 : (fr ≤ 64 * k + j) = (r ≤ j) := by simp; omega
            have e2 : (64 * k + j < n) = True := by simp; omega
            simp only [e1, e2]; try simp
          have HW3 := Lib.hid hW3; have HDS := Lib.hid hDs; clear hW3 hDs hD
          by_cases h0 : W3 = 0
          · have hnew : ∀ i, fr ≤ i → i < 64 * (k + 1) → i < n → f i ≠ true := by
              intro i h1 h2 h3
              by_cases h4 : i < 64 * k
              · exact hno.out i h1 h4 h3
              · have h5 := pk_zero D 64 (by rw [← HW3.out, h0]) (i - 64 * k) (by omega)
                rw [HDS.out _ (by omega), show 64 * k + (i - 64 * k) = i by omega] at h5
                simpa [h1, h3] using h5
            have HNEW := Lib.hid hnew
            rw [h0] at h23
            subst h0
            have h23' : W2 = 0 := h23.symm; subst h23'
            clear hnew
            go_wp2_with fail
            go_roundw
            case rel => exact ⟨k + 1, by omega, by go_num, by omega, HNEW, by first | trivial | rfl⟩
            case measure => simp [intOf]; omega
          · obtain ⟨t1, t2, t3⟩ := ctz_pk D (by rw [← HW3.out]; exact h0)
            rw [← HW3.out] at t1 t2 t3
            rw [HDS.out _ t1] at t2
            simp only [Bool.and_eq_true, beq_iff_eq, decide_eq_true_eq] at t2
            obtain ⟨⟨t4, t5⟩, t6⟩ := t2
            have htz := tzAny W3 (by rw [HW3.out]; exact HPL.out D 64) h0 wr hT
            generalize hC : Lib.ctz 64 W3 = C at *
            have hx : nx f true n fr = (64 * k + C : Nat) := nx_yes t4 t5 t6 (fun j g1 g2 => by
              by_cases g4 : j < 64 * k
              · exact hno.out j g1 g4 (by omega)
              · have g5 := t3 (j - 64 * k) (by omega)
                rw [HDS.out _ (by omega), show 64 * k + (j - 64 * k) = j by omega] at g5
                have g6 : j < n := by omega
                simpa [g1, g6] using g5)
            have HX := Lib.hid hx
            have HTZ := Lib.hid htz
            have hne : ((W3 : Int) == 0) = false := by rw [beq_eq_false_iff_ne]; omega
            have hne2 : ((W3 : Int) != 0) = true := by rw [bne_iff_ne]; omega
            clear htz t3 t4 t5 t6 hx hC
            subst h23
            go_wp2_with fail
            refine HTZ.out.mono ?_; rintro e w' ⟨rfl, rfl⟩
            go_wp2_with fail
            go_ret
            exact ⟨by rw [HX.out]; exact congrArg (fun v => Ending.returned (Value.int .i64 v)) (show (k : Int) * 64 + (C : Int) = ((64 * k + C : Nat) : Int) by omega), rfl⟩
      · have hkq2 : (k : Int) ≠ q := by omega
        have hkq3 : ((k : Int) == q) = false := by rw [beq_eq_false_iff_ne]; exact hkq2
        by_cases hkl : k + 1 = m
        · have hkl2 : ((k : Int) == (m : Int) - 1) = true := by rw [beq_iff_eq]; omega
          have HKL := Lib.hid hkl; clear hkl
          obtain ⟨B, hB⟩ : ∃ B : Nat → Bool, B = A := ⟨_, rfl⟩
          obtain ⟨W2, hW2⟩ : ∃ W2, W2 = pk B 64 := ⟨_, rfl⟩
          have h12 : W2 = W1 := by rw [hW2, hB, HW1.out]
          have HW2 := Lib.hid hW2; have HB := Lib.hid hB; clear hW2 hB
          obtain ⟨D, hD⟩ : ∃ D : Nat → Bool, D = fun j => B j && decide (64 * k + j < n) := ⟨_, rfl⟩
          obtain ⟨W3, hW3⟩ : ∃ W3, W3 = pk D 64 := ⟨_, rfl⟩
          have hmk : bits .and .u64 (W2 : Int) (msk n : Int) = (W3 : Int) := by rw [HW2.out, hW3, hD]; exact msk_pk B n k (by have := HM.out; have := HKL.out; omega) (by have := HM.out; have := HKL.out; omega)
          have hDs : ∀ j, j < 64 → D j = ((f (64 * k + j) == true) && decide (fr ≤ 64 * k + j) && decide (64 * k + j < n)) := by
            intro j hj
            have h1 := HQ.out; have h2 := HR.out; have h3 := HM.out; have h4 := HKL.out
            rw [hD, HB.out, HA.out]
            have e1 : (fr ≤ 64 * k + j) = True := by simp; omega
            simp only [e1]; try simp
          have HW3 := Lib.hid hW3; have HDS := Lib.hid hDs; clear hW3 hDs hD
          by_cases h0 : W3 = 0
          · have hnew : ∀ i, fr ≤ i → i < 64 * (k + 1) → i < n → f i ≠ true := by
              intro i h1 h2 h3
              by_cases h4 : i < 64 * k
              · exact hno.out i h1 h4 h3
              · have h5 := pk_zero D 64 (by rw [← HW3.out, h0]) (i - 64 * k) (by omega)
                rw [HDS.out _ (by omega), show 64 * k + (i - 64 * k) = i by omega] at h5
                simpa [h1, h3] using h5
            have HNEW := Lib.hid hnew
            subst h0
            subst h12
            clear hnew
            go_wp2_with fail
            refine HMSK.out.mono ?_; rintro e w' ⟨rfl, rfl⟩
            go_wp2_with fail
            go_roundw
            case rel => exact ⟨k + 1, by omega, by go_num, by omega, HNEW, by first | trivial | rfl⟩
            case measure => simp [intOf]; omega
          · obtain ⟨t1, t2, t3⟩ := ctz_pk D (by rw [← HW3.out]; exact h0)
            rw [← HW3.out] at t1 t2 t3
            rw [HDS.out _ t1] at t2
            simp only [Bool.and_eq_true, beq_iff_eq, decide_eq_true_eq] at t2
            obtain ⟨⟨t4, t5⟩, t6⟩ := t2
            have htz := tzAny W3 (by rw [HW3.out]; exact HPL.out D 64) h0 wr hT
            generalize hC : Lib.ctz 64 W3 = C at *
            have hx : nx f true n fr = (64 * k + C : Nat) := nx_yes t4 t5 t6 (fun j g1 g2 => by
              by_cases g4 : j < 64 * k
              · exact hno.out j g1 g4 (by omega)
              · have g5 := t3 (j - 64 * k) (by omega)
                rw [HDS.out _ (by omega), show 64 * k + (j - 64 * k) = j by omega] at g5
                have g6 : j < n := by omega
                simpa [g1, g6] using g5)
            have HX := Lib.hid hx
            have HTZ := Lib.hid htz
            have hne : ((W3 : Int) == 0) = false := by rw [beq_eq_false_iff_ne]; omega
            have hne2 : ((W3 : Int) != 0) = true := by rw [bne_iff_ne]; omega
            clear htz t3 t4 t5 t6 hx hC
            subst h12
            go_wp2_with fail
            refine HMSK.out.mono ?_; rintro e w' ⟨rfl, rfl⟩
            go_wp2_with fail
            refine HTZ.out.mono ?_; rintro e w' ⟨rfl, rfl⟩
            go_wp2_with fail
            go_ret
            exact ⟨by rw [HX.out]; exact congrArg (fun v => Ending.returned (Value.int .i64 v)) (show (k : Int) * 64 + (C : Int) = ((64 * k + C : Nat) : Int) by omega), rfl⟩
        · have hkl2 : ((k : Int) == (m : Int) - 1) = false := by rw [beq_eq_false_iff_ne]; omega
          have HKL := Lib.hid hkl; clear hkl
          obtain ⟨B, hB⟩ : ∃ B : Nat → Bool, B = A := ⟨_, rfl⟩
          obtain ⟨W2, hW2⟩ : ∃ W2, W2 = pk B 64 := ⟨_, rfl⟩
          have h12 : W2 = W1 := by rw [hW2, hB, HW1.out]
          have HW2 := Lib.hid hW2; have HB := Lib.hid hB; clear hW2 hB
          obtain ⟨D, hD⟩ : ∃ D : Nat → Bool, D = B := ⟨_, rfl⟩
          obtain ⟨W3, hW3⟩ : ∃ W3, W3 = pk D 64 := ⟨_, rfl⟩
          have h23 : W3 = W2 := by rw [hW3, hD, HW2.out]
          have hDs : ∀ j, j < 64 → D j = ((f (64 * k + j) == true) && decide (fr ≤ 64 * k + j) && decide (64 * k + j < n)) := by
            intro j hj
            have h1 := HQ.out; have h2 := HR.out; have h3 := HM.out; have h4 := HKL.out
            rw [hD, HB.out, HA.out]
            have e1 : (fr ≤ 64 * k + j) = True := by simp; omega
            have e2 : (64 * k + j < n) = True := by simp; omega
            simp only [e1, e2]; try simp
          have HW3 := Lib.hid hW3; have HDS := Lib.hid hDs; clear hW3 hDs hD
          by_cases h0 : W3 = 0
          · have hnew : ∀ i, fr ≤ i → i < 64 * (k + 1) → i < n → f i ≠ true := by
              intro i h1 h2 h3
              by_cases h4 : i < 64 * k
              · exact hno.out i h1 h4 h3
              · have h5 := pk_zero D 64 (by rw [← HW3.out, h0]) (i - 64 * k) (by omega)
                rw [HDS.out _ (by omega), show 64 * k + (i - 64 * k) = i by omega] at h5
                simpa [h1, h3] using h5
            have HNEW := Lib.hid hnew
            rw [h0] at h23
            subst h0
            have h23' : W2 = 0 := h23.symm; subst h23'
            subst h12
            clear hnew
            go_wp2_with fail
            go_roundw
            case rel => exact ⟨k + 1, by omega, by go_num, by omega, HNEW, by first | trivial | rfl⟩
            case measure => simp [intOf]; omega
          · obtain ⟨t1, t2, t3⟩ := ctz_pk D (by rw [← HW3.out]; exact h0)
            rw [← HW3.out] at t1 t2 t3
            rw [HDS.out _ t1] at t2
            simp only [Bool.and_eq_true, beq_iff_eq, decide_eq_true_eq] at t2
            obtain ⟨⟨t4, t5⟩, t6⟩ := t2
            have htz := tzAny W3 (by rw [HW3.out]; exact HPL.out D 64) h0 wr hT
            generalize hC : Lib.ctz 64 W3 = C at *
            have hx : nx f true n fr = (64 * k + C : Nat) := nx_yes t4 t5 t6 (fun j g1 g2 => by
              by_cases g4 : j < 64 * k
              · exact hno.out j g1 g4 (by omega)
              · have g5 := t3 (j - 64 * k) (by omega)
                rw [HDS.out _ (by omega), show 64 * k + (j - 64 * k) = j by omega] at g5
                have g6 : j < n := by omega
                simpa [g1, g6] using g5)
            have HX := Lib.hid hx
            have HTZ := Lib.hid htz
            have hne : ((W3 : Int) == 0) = false := by rw [beq_eq_false_iff_ne]; omega
            have hne2 : ((W3 : Int) != 0) = true := by rw [bne_iff_ne]; omega
            clear htz t3 t4 t5 t6 hx hC
            subst h23
            subst h12
            go_wp2_with fail
            refine HTZ.out.mono ?_; rintro e w' ⟨rfl, rfl⟩
            go_wp2_with fail
            go_ret
            exact ⟨by rw [HX.out]; exact congrArg (fun v => Ending.returned (Value.int .i64 v)) (show (k : Int) * 64 + (C : Int) = ((64 * k + C : Nat) : Int) by omega), rfl⟩
    · have hkm : k = m := by omega
      have hx : nx f true n fr = -1 := nx_no fun i h1 h2 => hno.out i h1 (by have := HM.out; omega) h2
      have HX := Lib.hid hx
      clear hx
      subst hkm
      go_wp2_with fail
      go_ret
      exact ⟨by rw [HX.out]; rfl, rfl⟩

set_option maxRecDepth 100000 in
set_option maxHeartbeats 4000000 in
theorem bitsNextInFalse (b g n : Nat) (f : Nat → Bool) (from' : Int) (w : World) (h : BSet w b g n f) (hT : TabW w) (hin : from'.toNat < n) :
    Calls Tryd.prog 40 #[.pointer (some ⟨b, 0, none⟩), .int .i64 from', .bool false] w fun e w' => e = .returned (.int .i64 (nx f false n from'.toNat)) ∧ w = w' := by
  have d0 := h.n0
  have hsm := h.small
  have hmax : max from' 0 = (from'.toNat : Int) := by omega
  generalize from'.toNat = fr at *
  have HIN := Lib.hid hin
  have hin1 : decide (n ≤ fr) = false := by simpa using hin
  obtain ⟨c, d3⟩ := h.s1
  obtain ⟨m, hmm⟩ : ∃ m, m = (n + 63) / 64 := ⟨_, rfl⟩
  rw [← hmm] at d3
  have HM := Lib.hid hmm
  obtain ⟨q, hq⟩ : ∃ q : Nat, q = fr / 64 := ⟨_, rfl⟩
  obtain ⟨r, hr⟩ : ∃ r : Nat, r = fr % 64 := ⟨_, rfl⟩
  have hqq : (fr : Int) / 64 = q := by omega
  have hrr : fr % 64 = r := hr.symm
  have hr64 : r < 64 := by omega
  have HQ := Lib.hid hq
  have HR := Lib.hid hr
  have H := Lib.hid h
  have hqm : q < m := by omega
  have hm9 : m ≤ 1024 := by omega
  have hm1 : (1 : Int) ≤ m := by omega
  clear hmm hq hr h hsm hin
  go_enter Tryd.func40, Tryd.ntmps40
  go_wp2_with fail
  go_loopw [7] (fun i wr => ∃ k : Nat, k ≤ m ∧ i = .int .i64 k ∧ q ≤ k ∧ Hid (∀ i, fr ≤ i → i < 64 * k → i < n → f i ≠ false) ∧ wr = w) (fun i _ => m - (intOf i).toNat)
  case atStart => exact ⟨q, by omega, rfl, Nat.le_refl _, fun i h1 h2 => by have := HQ.out; omega, rfl⟩
  case round =>
    obtain ⟨k, hk, rfl, hk2, hno, rfl⟩ := hrel
    by_cases hlt : k < m
    · obtain ⟨d1, _⟩ := H.out.word (k := k) (by rw [← HM.out]; exact hlt)
      have hmsk := bitsMask _ _ _ _ _ H.out.toBRaw
      have HMSK := Lib.hid hmsk
      have hpl := pk_lt
      have HPL := Lib.hid hpl
      clear hmsk hpl
      obtain ⟨A, hA⟩ : ∃ A : Nat → Bool, A = fun j => f (64 * k + j) == false := ⟨_, rfl⟩
      obtain ⟨W, hW⟩ : ∃ W, W = wd f k := ⟨_, rfl⟩
      rw [← hW] at d1
      obtain ⟨W1, hW1⟩ : ∃ W1, W1 = pk A 64 := ⟨_, rfl⟩
      have hs1 : bits .xor .u64 IntKind.u64.max (W : Int) = (W1 : Int) := by rw [hW, hW1, hA]; exact xor_pk _
      have hs2 : bits .xor .u64 (if IntKind.u64.signed = true then -1 else IntKind.u64.max) (W : Int) = (W1 : Int) := hs1
      clear hW
      have HW1 := Lib.hid hW1
      have HA := Lib.hid hA
      clear hW1 hA
      by_cases hkq : k = q
      · subst hkq
        by_cases hkl : k + 1 = m
        · have hkl2 : ((k : Int) == (m : Int) - 1) = true := by rw [beq_iff_eq]; omega
          have HKL := Lib.hid hkl; clear hkl
          obtain ⟨B, hB⟩ : ∃ B : Nat → Bool, B = fun j => A j && decide (r ≤ j) := ⟨_, rfl⟩
          obtain ⟨W2, hW2⟩ : ∃ W2, W2 = pk B 64 := ⟨_, rfl⟩
          have hsh : IntKind.u64.wrap ((W1 : Int) / 2 ^ r * 2 ^ r) = (W2 : Int) := by rw [HW1.out, hW2, hB]; exact low_pk A r
          have HW2 := Lib.hid hW2; have HB := Lib.hid hB; clear hW2 hB
          obtain ⟨D, hD⟩ : ∃ D : Nat → Bool, D = fun j => B j && decide (64 * k + j < n) := ⟨_, rfl⟩
          obtain ⟨W3, hW3⟩ : ∃ W3, W3 = pk D 64 := ⟨_, rfl⟩
          have hmk : bits .and .u64 (W2 : Int) (msk n : Int) = (W3 : Int) := by rw [HW2.out, hW3, hD]; exact msk_pk B n k (by have := HM.out; have := HKL.out; omega) (by have := HM.out; have := HKL.out; omega)
          have hDs : ∀ j, j < 64 → D j = ((f (64 * k + j) == false) && decide (fr ≤ 64 * k + j) && decide (64 * k + j < n)) := by
            intro j hj
            have h1 := HQ.out; have h2 := HR.out; have h3 := HM.out; have h4 := HKL.out
            rw [hD, HB.out, HA.out]
            have e1 : (fr ≤ 64 * k + j) = (r ≤ j) := by simp; omega
            simp only [e1]; try simp
          have HW3 := Lib.hid hW3; have HDS := Lib.hid hDs; clear hW3 hDs hD
          by_cases h0 : W3 = 0
          · have hnew : ∀ i, fr ≤ i → i < 64 * (k + 1) → i < n → f i ≠ false := by
              intro i h1 h2 h3
              by_cases h4 : i < 64 * k
              · exact hno.out i h1 h4 h3
              · have h5 := pk_zero D 64 (by rw [← HW3.out, h0]) (i - 64 * k) (by omega)
                rw [HDS.out _ (by omega), show 64 * k + (i - 64 * k) = i by omega] at h5
                simpa [h1, h3] using h5
            have HNEW := Lib.hid hnew
            subst h0
            clear hnew
            go_wp2_with fail
            refine HMSK.out.mono ?_; rintro e w' ⟨rfl, rfl⟩
            go_wp2_with fail
            go_roundw
            case rel => exact ⟨k + 1, by omega, by go_num, by omega, HNEW, by first | trivial | rfl⟩
            case measure => simp [intOf]; omega
          · obtain ⟨t1, t2, t3⟩ := ctz_pk D (by rw [← HW3.out]; exact h0)
            rw [← HW3.out] at t1 t2 t3
            rw [HDS.out _ t1] at t2
            simp only [Bool.and_eq_true, beq_iff_eq, decide_eq_true_eq] at t2
            obtain ⟨⟨t4, t5⟩, t6⟩ := t2
            have htz := tzAny W3 (by rw [HW3.out]; exact HPL.out D 64) h0 wr hT
            generalize hC : Lib.ctz 64 W3 = C at *
            have hx : nx f false n fr = (64 * k + C : Nat) := nx_yes t4 t5 t6 (fun j g1 g2 => by
              by_cases g4 : j < 64 * k
              · exact hno.out j g1 g4 (by omega)
              · have g5 := t3 (j - 64 * k) (by omega)
                rw [HDS.out _ (by omega), show 64 * k + (j - 64 * k) = j by omega] at g5
                have g6 : j < n := by omega
                simpa [g1, g6] using g5)
            have HX := Lib.hid hx
            have HTZ := Lib.hid htz
            have hne : ((W3 : Int) == 0) = false := by rw [beq_eq_false_iff_ne]; omega
            have hne2 : ((W3 : Int) != 0) = true := by rw [bne_iff_ne]; omega
            clear htz t3 t4 t5 t6 hx hC
            go_wp2_with fail
            refine HMSK.out.mono ?_; rintro e w' ⟨rfl, rfl⟩
            go_wp2_with fail
            refine HTZ.out.mono ?_; rintro e w' ⟨rfl, rfl⟩
            go_wp2_with fail
            go_ret
            exact ⟨by rw [HX.out]; exact congrArg (fun v => Ending.returned (Value.int .i64 v)) (show (k : Int) * 64 + (C : Int) = ((64 * k + C : Nat) : Int) by omega), rfl⟩
        · have hkl2 : ((k : Int) == (m : Int) - 1) = false := by rw [beq_eq_false_iff_ne]; omega
          have HKL := Lib.hid hkl; clear hkl
          obtain ⟨B, hB⟩ : ∃ B : Nat → Bool, B = fun j => A j && decide (r ≤ j) := ⟨_, rfl⟩
          obtain ⟨W2, hW2⟩ : ∃ W2, W2 = pk B 64 := ⟨_, rfl⟩
          have hsh : IntKind.u64.wrap ((W1 : Int) / 2 ^ r * 2 ^ r) = (W2 : Int) := by rw [HW1.out, hW2, hB]; exact low_pk A r
          have HW2 := Lib.hid hW2; have HB := Lib.hid hB; clear hW2 hB
          obtain ⟨D, hD⟩ : ∃ D : Nat → Bool, D = B := ⟨_, rfl⟩
          obtain ⟨W3, hW3⟩ : ∃ W3, W3 = pk D 64 := ⟨_, rfl⟩
          have h23 : W3 = W2 := by rw [hW3, hD, HW2.out]
          have hDs : ∀ j, j < 64 → D j = ((f (64 * k + j) == false) && decide (fr ≤ 64 * k + j) && decide (64 * k + j < n)) := by
            intro j hj
            have h1 := HQ.out; have h2 := HR.out; have h3 := HM.out; have h4 := HKL.out
            rw [hD, HB.out, HA.out]
            have e1 : (fr ≤ 64 * k + j) = (r ≤ j) := by simp; omega
            have e2 : (64 * k + j < n) = True := by simp; omega
            simp only [e1, e2]; try simp
          have HW3 := Lib.hid hW3; have HDS := Lib.hid hDs; clear hW3 hDs hD
          by_cases h0 : W3 = 0
          · have hnew : ∀ i, fr ≤ i → i < 64 * (k + 1) → i < n → f i ≠ false := by
              intro i h1 h2 h3
              by_cases h4 : i < 64 * k
              · exact hno.out i h1 h4 h3
              · have h5 := pk_zero D 64 (by rw [← HW3.out, h0]) (i - 64 * k) (by omega)
                rw [HDS.out _ (by omega), show 64 * k + (i - 64 * k) = i by omega] at h5
                simpa [h1, h3] using h5
            have HNEW := Lib.hid hnew
            rw [h0] at h23
            subst h0
            have h23' : W2 = 0 := h23.symm; subst h23'
            clear hnew
            go_wp2_with fail
            go_roundw
            case rel => exact ⟨k + 1, by omega, by go_num, by omega, HNEW, by first | trivial | rfl⟩
            case measure => simp [intOf]; omega
          · obtain ⟨t1, t2, t3⟩ := ctz_pk D (by rw [← HW3.out]; exact h0)
            rw [← HW3.out] at t1 t2 t3
            rw [HDS.out _ t1] at t2
            simp only [Bool.and_eq_true, beq_iff_eq, decide_eq_true_eq] at t2
            obtain ⟨⟨t4, t5⟩, t6⟩ := t2
            have htz := tzAny W3 (by rw [HW3.out]; exact HPL.out D 64) h0 wr hT
            generalize hC : Lib.ctz 64 W3 = C at *
            have hx : nx f false n fr = (64 * k + C : Nat) := nx_yes t4 t5 t6 (fun j g1 g2 => by
              by_cases g4 : j < 64 * k
              · exact hno.out j g1 g4 (by omega)
              · have g5 := t3 (j - 64 * k) (by omega)
                rw [HDS.out _ (by omega), show 64 * k + (j - 64 * k) = j by omega] at g5
                have g6 : j < n := by omega
                simpa [g1, g6] using g5)
            have HX := Lib.hid hx
            have HTZ := Lib.hid htz
            have hne : ((W3 : Int) == 0) = false := by rw [beq_eq_false_iff_ne]; omega
            have hne2 : ((W3 : Int) != 0) = true := by rw [bne_iff_ne]; omega
            clear htz t3 t4 t5 t6 hx hC
            subst h23
            go_wp2_with fail
            refine HTZ.out.mono ?_; rintro e w' ⟨rfl, rfl⟩
            go_wp2_with fail
            go_ret
            exact ⟨by rw [HX.out]; exact congrArg (fun v => Ending.returned (Value.int .i64 v)) (show (k : Int) * 64 + (C : Int) = ((64 * k + C : Nat) : Int) by omega), rfl⟩
      · have hkq2 : (k : Int) ≠ q := by omega
        have hkq3 : ((k : Int) == q) = false := by rw [beq_eq_false_iff_ne]; exact hkq2
        by_cases hkl : k + 1 = m
        · have hkl2 : ((k : Int) == (m : Int) - 1) = true := by rw [beq_iff_eq]; omega
          have HKL := Lib.hid hkl; clear hkl
          obtain ⟨B, hB⟩ : ∃ B : Nat → Bool, B = A := ⟨_, rfl⟩
          obtain ⟨W2, hW2⟩ : ∃ W2, W2 = pk B 64 := ⟨_, rfl⟩
          have h12 : W2 = W1 := by rw [hW2, hB, HW1.out]
          have HW2 := Lib.hid hW2; have HB := Lib.hid hB; clear hW2 hB
          obtain ⟨D, hD⟩ : ∃ D : Nat → Bool, D = fun j => B j && decide (64 * k + j < n) := ⟨_, rfl⟩
          obtain ⟨W3, hW3⟩ : ∃ W3, W3 = pk D 64 := ⟨_, rfl⟩
          have hmk : bits .and .u64 (W2 : Int) (msk n : Int) = (W3 : Int) := by rw [HW2.out, hW3, hD]; exact msk_pk B n k (by have := HM.out; have := HKL.out; omega) (by have := HM.out; have := HKL.out; omega)
          have hDs : ∀ j, j < 64 → D j = ((f (64 * k + j) == false) && decide (fr ≤ 64 * k + j) && decide (64 * k + j < n)) := by
            intro j hj
            have h1 := HQ.out; have h2 := HR.out; have h3 := HM.out; have h4 := HKL.out
            rw [hD, HB.out, HA.out]
            have e1 : (fr ≤ 64 * k + j) = True := by simp; omega
            simp only [e1]; try simp
          have HW3 := Lib.hid hW3; have HDS := Lib.hid hDs; clear hW3 hDs hD
          by_cases h0 : W3 = 0
          · have hnew : ∀ i, fr ≤ i → i < 64 * (k + 1) → i < n → f i ≠ false := by
              intro i h1 h2 h3
              by_cases h4 : i < 64 * k
              · exact hno.out i h1 h4 h3
              · have h5 := pk_zero D 64 (by rw [← HW3.out, h0]) (i - 64 * k) (by omega)
                rw [HDS.out _ (by omega), show 64 * k + (i - 64 * k) = i by omega] at h5
                simpa [h1, h3] using h5
            have HNEW := Lib.hid hnew
            subst h0
            subst h12
            clear hnew
            go_wp2_with fail
            refine HMSK.out.mono ?_; rintro e w' ⟨rfl, rfl⟩
            go_wp2_with fail
            go_roundw
            case rel => exact ⟨k + 1, by omega, by go_num, by omega, HNEW, by first | trivial | rfl⟩
            case measure => simp [intOf]; omega
          · obtain ⟨t1, t2, t3⟩ := ctz_pk D (by rw [← HW3.out]; exact h0)
            rw [← HW3.out] at t1 t2 t3
            rw [HDS.out _ t1] at t2
            simp only [Bool.and_eq_true, beq_iff_eq, decide_eq_true_eq] at t2
            obtain ⟨⟨t4, t5⟩, t6⟩ := t2
            have htz := tzAny W3 (by rw [HW3.out]; exact HPL.out D 64) h0 wr hT
            generalize hC : Lib.ctz 64 W3 = C at *
            have hx : nx f false n fr = (64 * k + C : Nat) := nx_yes t4 t5 t6 (fun j g1 g2 => by
              by_cases g4 : j < 64 * k
              · exact hno.out j g1 g4 (by omega)
              · have g5 := t3 (j - 64 * k) (by omega)
                rw [HDS.out _ (by omega), show 64 * k + (j - 64 * k) = j by omega] at g5
                have g6 : j < n := by omega
                simpa [g1, g6] using g5)
            have HX := Lib.hid hx
            have HTZ := Lib.hid htz
            have hne : ((W3 : Int) == 0) = false := by rw [beq_eq_false_iff_ne]; omega
            have hne2 : ((W3 : Int) != 0) = true := by rw [bne_iff_ne]; omega
            clear htz t3 t4 t5 t6 hx hC
            subst h12
            go_wp2_with fail
            refine HMSK.out.mono ?_; rintro e w' ⟨rfl, rfl⟩
            go_wp2_with fail
            refine HTZ.out.mono ?_; rintro e w' ⟨rfl, rfl⟩
            go_wp2_with fail
            go_ret
            exact ⟨by rw [HX.out]; exact congrArg (fun v => Ending.returned (Value.int .i64 v)) (show (k : Int) * 64 + (C : Int) = ((64 * k + C : Nat) : Int) by omega), rfl⟩
        · have hkl2 : ((k : Int) == (m : Int) - 1) = false := by rw [beq_eq_false_iff_ne]; omega
          have HKL := Lib.hid hkl; clear hkl
          obtain ⟨B, hB⟩ : ∃ B : Nat → Bool, B = A := ⟨_, rfl⟩
          obtain ⟨W2, hW2⟩ : ∃ W2, W2 = pk B 64 := ⟨_, rfl⟩
          have h12 : W2 = W1 := by rw [hW2, hB, HW1.out]
          have HW2 := Lib.hid hW2; have HB := Lib.hid hB; clear hW2 hB
          obtain ⟨D, hD⟩ : ∃ D : Nat → Bool, D = B := ⟨_, rfl⟩
          obtain ⟨W3, hW3⟩ : ∃ W3, W3 = pk D 64 := ⟨_, rfl⟩
          have h23 : W3 = W2 := by rw [hW3, hD, HW2.out]
          have hDs : ∀ j, j < 64 → D j = ((f (64 * k + j) == false) && decide (fr ≤ 64 * k + j) && decide (64 * k + j < n)) := by
            intro j hj
            have h1 := HQ.out; have h2 := HR.out; have h3 := HM.out; have h4 := HKL.out
            rw [hD, HB.out, HA.out]
            have e1 : (fr ≤ 64 * k + j) = True := by simp; omega
            have e2 : (64 * k + j < n) = True := by simp; omega
            simp only [e1, e2]; try simp
          have HW3 := Lib.hid hW3; have HDS := Lib.hid hDs; clear hW3 hDs hD
          by_cases h0 : W3 = 0
          · have hnew : ∀ i, fr ≤ i → i < 64 * (k + 1) → i < n → f i ≠ false := by
              intro i h1 h2 h3
              by_cases h4 : i < 64 * k
              · exact hno.out i h1 h4 h3
              · have h5 := pk_zero D 64 (by rw [← HW3.out, h0]) (i - 64 * k) (by omega)
                rw [HDS.out _ (by omega), show 64 * k + (i - 64 * k) = i by omega] at h5
                simpa [h1, h3] using h5
            have HNEW := Lib.hid hnew
            rw [h0] at h23
            subst h0
            have h23' : W2 = 0 := h23.symm; subst h23'
            subst h12
            clear hnew
            go_wp2_with fail
            go_roundw
            case rel => exact ⟨k + 1, by omega, by go_num, by omega, HNEW, by first | trivial | rfl⟩
            case measure => simp [intOf]; omega
          · obtain ⟨t1, t2, t3⟩ := ctz_pk D (by rw [← HW3.out]; exact h0)
            rw [← HW3.out] at t1 t2 t3
            rw [HDS.out _ t1] at t2
            simp only [Bool.and_eq_true, beq_iff_eq, decide_eq_true_eq] at t2
            obtain ⟨⟨t4, t5⟩, t6⟩ := t2
            have htz := tzAny W3 (by rw [HW3.out]; exact HPL.out D 64) h0 wr hT
            generalize hC : Lib.ctz 64 W3 = C at *
            have hx : nx f false n fr = (64 * k + C : Nat) := nx_yes t4 t5 t6 (fun j g1 g2 => by
              by_cases g4 : j < 64 * k
              · exact hno.out j g1 g4 (by omega)
              · have g5 := t3 (j - 64 * k) (by omega)
                rw [HDS.out _ (by omega), show 64 * k + (j - 64 * k) = j by omega] at g5
                have g6 : j < n := by omega
                simpa [g1, g6] using g5)
            have HX := Lib.hid hx
            have HTZ := Lib.hid htz
            have hne : ((W3 : Int) == 0) = false := by rw [beq_eq_false_iff_ne]; omega
            have hne2 : ((W3 : Int) != 0) = true := by rw [bne_iff_ne]; omega
            clear htz t3 t4 t5 t6 hx hC
            subst h23
            subst h12
            go_wp2_with fail
            refine HTZ.out.mono ?_; rintro e w' ⟨rfl, rfl⟩
            go_wp2_with fail
            go_ret
            exact ⟨by rw [HX.out]; exact congrArg (fun v => Ending.returned (Value.int .i64 v)) (show (k : Int) * 64 + (C : Int) = ((64 * k + C : Nat) : Int) by omega), rfl⟩
    · have hkm : k = m := by omega
      have hx : nx f false n fr = -1 := nx_no fun i h1 h2 => hno.out i h1 (by have := HM.out; omega) h2
      have HX := Lib.hid hx
      clear hx
      subst hkm
      go_wp2_with fail
      go_ret
      exact ⟨by rw [HX.out]; rfl, rfl⟩

theorem bitsNext (b g n : Nat) (f : Nat → Bool) (from' : Int) (one : Bool) (w : World) (h : BSet w b g n f) (hT : TabW w) :
    Calls Tryd.prog 40 #[.pointer (some ⟨b, 0, none⟩), .int .i64 from', .bool one] w fun e w' => e = .returned (.int .i64 (nx f one n from'.toNat)) ∧ w = w' := by
  by_cases hin : from'.toNat < n
  · cases one
    · exact bitsNextInFalse b g n f from' w h hT hin
    · exact bitsNextInTrue b g n f from' w h hT hin
  · exact bitsNextOut b g n f from' one w h (by omega)
end Go.Proofs.YtjmfhcliggjdgaaDoor

/- Package bits: Has; no condition. -/
namespace Go.Proofs.YtjmfhcliggjdgaaDoor
open Go Go.RowKit Go.IntWalk

theorem and_bit64 (h : Nat → Bool) (r : Nat) (hr : r < 64) : (bits .and .u64 ((pk h 64 : Int) / 2 ^ r) 1 == 1) = h r := by
  have e : ((pk h 64 : Int) / 2 ^ r) = ((pk h 64 / 2 ^ r : Nat) : Int) := by simp
  have hlt := pk_lt h 64
  have hle : pk h 64 / 2 ^ r ≤ pk h 64 := Nat.div_le_self _ _
  have e2 := bits_and_u64_nat (pk h 64 / 2 ^ r) 1 (by omega) (by decide)
  rw [e, show (1 : Int) = ((1 : Nat) : Int) from rfl, e2]
  have e3 : pk h 64 / 2 ^ r &&& 1 = if h r then 1 else 0 := by
    have := testBit_pk h 64 r
    rw [← Nat.shiftRight_eq_div_pow, Nat.and_one_is_mod]
    have h2 : (pk h 64).testBit r = ((pk h 64 >>> r) % 2 == 1) := by
      rw [Nat.testBit, Nat.and_comm, Nat.and_one_is_mod]
      rcases Nat.mod_two_eq_zero_or_one (pk h 64 >>> r) with h | h <;> rw [h] <;> rfl
    rw [this] at h2
    simp only [hr, decide_true, Bool.true_and] at h2
    rcases Nat.mod_two_eq_zero_or_one (pk h 64 >>> r) with h3 | h3
    · rw [h3] at h2 ⊢; rw [h2]; rfl
    · rw [h3] at h2 ⊢; rw [h2]; rfl
  rw [e3]
  cases h r <;> rfl

/-- Is a place a one? -/
def hasB (f : Nat → Bool) (i : Int) : Bool := decide (0 ≤ i) && f i.toNat

set_option maxRecDepth 100000 in
set_option maxHeartbeats 1000000 in
theorem bitsHas (b g n : Nat) (f : Nat → Bool) (i : Int) (w : World) (h : BSet w b g n f) :
    Calls Tryd.prog 12 #[.pointer (some ⟨b, 0, none⟩), .int .i64 i] w fun e w' => e = .returned (.bool (hasB f i)) ∧ w = w' := by
  have d0 := h.n0
  have hsm := h.small
  by_cases h0 : 0 ≤ i
  · obtain ⟨k, rfl⟩ : ∃ k : Nat, i = k := ⟨i.toNat, by omega⟩
    by_cases h1 : k < n
    · obtain ⟨q, hq⟩ : ∃ q : Nat, q = k / 64 := ⟨_, rfl⟩
      obtain ⟨r, hr⟩ : ∃ r : Nat, r = k % 64 := ⟨_, rfl⟩
      obtain ⟨m, hmm⟩ : ∃ m, m = (n + 63) / 64 := ⟨_, rfl⟩
      obtain ⟨c, d3⟩ := h.s1
      obtain ⟨d1, _⟩ := h.word (k := q) (by omega)
      have hb := and_bit64 (fun j => f (64 * q + j)) r (by omega)
      rw [show 64 * q + r = k by omega] at hb
      have hx : hasB f (k : Int) = f k := by simp [hasB]
      rw [hx]
      rw [← hmm] at d3
      have hqq : (k : Int) / 64 = q := by omega
      have hqm : q < m := by omega
      have htm : (k : Int).tmod 64 = r := by rw [Int.tmod_eq_emod_of_nonneg (by omega)]; omega
      have hem : (k : Int) % 64 = r := by omega
      have hwq : IntKind.i64.wrap (q : Int) = q := by rw [IntKind.wrap_i64]; omega
      have hwr : IntKind.i64.wrap (r : Int) = r := by rw [IntKind.wrap_i64]; omega
      have hr9 : r < 64 := by omega
      have hsh : ∀ Z : Int, Op.shift .shr .u64 Z .i64 (r : Int) = pure (.int .u64 (Z / 2 ^ r)) := by
        intro Z
        rw [shift_shr_u64 .i64 Z (r : Int) (by omega) (by omega)]
        simp
      change ((bits .and .u64 ((wd f q : Int) / 2 ^ r) 1 == 1) = f k) at hb
      have hb2 : decide (bits .and .u64 ((wd f q : Int) / 2 ^ r) 1 = 1) = f k := by rw [← hb]; rfl
      generalize wd f q = W at d1 hb hb2
      generalize f k = v at hb hb2
      have h1' : (k : Int) < n := by omega
      clear hq hr hmm h hx
      go_enter Tryd.func12, Tryd.ntmps12
      go_wp2_with fail
      go_ret
      exact ⟨rfl, rfl⟩
    · have hx : hasB f (k : Int) = false := by simp [hasB]; exact h.out k (by omega)
      rw [hx]
      have h1' : ¬ ((k : Int) < n) := by omega
      clear h hx
      go_enter Tryd.func12, Tryd.ntmps12
      go_wp2_with fail
      go_ret
      exact ⟨rfl, rfl⟩
  · have hx : hasB f i = false := by simp [hasB, h0]
    rw [hx]
    clear h hx
    go_enter Tryd.func12, Tryd.ntmps12
    go_wp2_with fail
    go_ret
    exact ⟨rfl, rfl⟩
end Go.Proofs.YtjmfhcliggjdgaaDoor

/- The reference of package bits: Has, Fill, Put, Next, Count; no condition. -/
namespace Go.Proofs.YtjmfhcliggjdgaaDoor
open Go Go.RowKit Go.IntWalk




set_option maxHeartbeats 400000 in
theorem refPutBad (b g n : Nat) (f : Nat → Bool) (i : Int) (one : Bool) (w : World) (h : RSet w b g n f) (hbad : i < 0 ∨ n ≤ i) :
    Calls Tryd.prog 18 #[.pointer (some ⟨b, 0, none⟩), .int .i64 i, .bool one] w fun e w' => e = .returned (.int .i64 1) ∧ w = w' := by
  obtain ⟨c, d0⟩ := h.s0
  clear h
  go_enter Tryd.func18, Tryd.ntmps18
  by_cases h1 : i < 0
  · go_wp2
    go_ret
    exact ⟨rfl, rfl⟩
  · have h3 : (n : Int) ≤ i := by omega
    go_wp2
    go_ret
    exact ⟨rfl, rfl⟩

set_option maxHeartbeats 400000 in
theorem refPut (b g n : Nat) (f : Nat → Bool) (i : Nat) (one : Bool) (w : World) (h : RSet w b g n f) (hi : i < n) :
    Calls Tryd.prog 18 #[.pointer (some ⟨b, 0, none⟩), .int .i64 i, .bool one] w fun e w' => e = .returned (.int .i64 0) ∧ RSet w' b g n (fil f i (i + 1) one) ∧ Mod (· = g) w w' := by
  obtain ⟨c, d0⟩ := h.s0
  have hn := h.small
  obtain ⟨d1, d2⟩ := h.at hi
  have h1 : ¬ (i : Int) < 0 := by omega
  have h3 : ¬ (n : Int) ≤ i := by omega
  have hnx : RSet (w.setCell ⟨g, i, none⟩ (.bool one)) b g n (fil f i (i + 1) one) := by
    refine h.put i _ _ ?_ (fun x hx => ?_)
    · unfold fil; rw [if_pos (by omega)]
    · unfold fil; rw [if_neg (by omega)]
  have HNX := Lib.hid hnx
  clear h hnx
  go_enter Tryd.func18, Tryd.ntmps18
  go_wp2_with fail
  go_ret
  exact ⟨rfl, HNX.out, (Mod.refl (· = g) w).setCell (p := ⟨g, i, none⟩) (.inl rfl) _⟩


end Go.Proofs.YtjmfhcliggjdgaaDoor

/- Package bits: And, Or, Less; the reference's Join; no condition. -/
namespace Go.Proofs.YtjmfhcliggjdgaaDoor
open Go Go.RowKit Go.IntWalk

def fAnd (f g : Nat → Bool) : Nat → Bool := fun x => f x && g x
def fOr (f g : Nat → Bool) : Nat → Bool := fun x => f x || g x
def fLess (f g : Nat → Bool) : Nat → Bool := fun x => f x && !g x
theorem wd_and (f g : Nat → Bool) (k : Nat) : bits .and .u64 (wd f k : Int) (wd g k : Int) = (wd (fAnd f g) k : Int) := by
  rw [bits_and_u64_nat _ _ (wd_lt _ _) (wd_lt _ _)]
  congr 1
  apply Nat.eq_of_testBit_eq
  intro i
  rw [Nat.testBit_and, testBit_wd, testBit_wd, testBit_wd, fAnd]
  by_cases hi : i < 64 <;> simp [hi]
theorem wd_or (f g : Nat → Bool) (k : Nat) : bits .or .u64 (wd f k : Int) (wd g k : Int) = (wd (fOr f g) k : Int) := by
  rw [bits_or_u64_nat _ _ (wd_lt _ _) (wd_lt _ _)]
  congr 1
  apply Nat.eq_of_testBit_eq
  intro i
  rw [Nat.testBit_or, testBit_wd, testBit_wd, testBit_wd, fOr]
  by_cases hi : i < 64 <;> simp [hi]
theorem wd_less (f g : Nat → Bool) (k : Nat) : bits .andNot .u64 (wd f k : Int) (wd g k : Int) = (wd (fLess f g) k : Int) := by
  rw [bits_andNot_u64_nat _ _ (wd_lt _ _) (wd_lt _ _)]
  congr 1
  apply Nat.eq_of_testBit_eq
  intro i
  rw [Nat.testBit_and, Nat.testBit_xor, testBit_ones, testBit_wd, testBit_wd, testBit_wd, fLess]
  by_cases hi : i < 64 <;> simp [hi]

theorem cloOr (x y : Int) (w : World) : Calls Tryd.prog 50 #[.int .u64 x, .int .u64 y] w fun e w' => e = .returned (.int .u64 (bits .or .u64 x y)) ∧ w = w' := by
  go_enter Tryd.func50, Tryd.ntmps50
  go_wp2_with fail
  go_ret
  exact ⟨rfl, rfl⟩
theorem cloLess (x y : Int) (w : World) : Calls Tryd.prog 52 #[.int .u64 x, .int .u64 y] w fun e w' => e = .returned (.int .u64 (bits .andNot .u64 x y)) ∧ w = w' := by
  go_enter Tryd.func52, Tryd.ntmps52
  go_wp2_with fail
  go_ret
  exact ⟨rfl, rfl⟩

set_option maxHeartbeats 400000 in
theorem joinBad (φ : FuncId) (b g n : Nat) (f : Nat → Bool) (o : Option Nat) (w : World) (h : BSet w b g n f) (hbad : ∀ b', o = some b' → ∃ g' n' f', BSet w b' g' n' f' ∧ n' ≠ n) :
    Calls Tryd.prog 49 #[.pointer (some ⟨b, 0, none⟩), .pointer (o.map fun b' => ⟨b', 0, none⟩), .func (.func φ) #[] #[]] w fun e w' => e = .returned (.tuple #[.pointer none, .int .i64 1]) ∧ ∃ k, w' = w.drewN k := by
  have c0 := h.n0
  cases o with
  | none =>
    clear h hbad
    simp only [Option.map_none]
    go_enter Tryd.func49, Tryd.ntmps49
    go_wp2_with fail
    go_quiet (fail)
    go_wp2_with fail
    go_ret2
    exact ⟨rfl, _, rfl⟩
  | some b' =>
    obtain ⟨g', n', f', h', hne⟩ := hbad b' rfl
    have c1 := h'.n0
    have hne' : ((n' : Int) == n) = false := by rw [beq_eq_false_iff_ne]; omega
    have hne2 : ((n' : Int) != n) = true := by rw [bne_iff_ne]; omega
    have hne3 : (n' == n) = false := by rw [beq_eq_false_iff_ne]; exact hne
    have hne4 : ¬ n' = n := hne
    clear h h' hbad
    simp only [Option.map_some]
    go_enter Tryd.func49, Tryd.ntmps49
    go_wp2_with fail
    go_quiet (fail)
    go_wp2_with fail
    go_ret2
    exact ⟨rfl, _, rfl⟩

/-- Joined so far. -/
def mixF (F f : Nat → Bool) (k : Nat) : Nat → Bool := fun x => if x < 64 * k then F x else f x
theorem wd_mix_out (F f : Nat → Bool) (k j : Nat) (h : j ≠ k) : wd (mixF F f (k + 1)) j = wd (mixF F f k) j := by
  apply pk_ext
  intro i hi
  unfold mixF
  by_cases a : 64 * j + i < 64 * k
  · rw [if_pos a, if_pos (by omega)]
  · rw [if_neg a, if_neg (by omega)]
theorem wd_mix_at (F f : Nat → Bool) (k : Nat) : wd (mixF F f k) k = wd f k := by
  apply pk_ext
  intro i hi
  unfold mixF
  rw [if_neg (by omega)]
theorem wd_mix_new (F f : Nat → Bool) (k : Nat) : wd (mixF F f (k + 1)) k = wd F k := by
  apply pk_ext
  intro i hi
  unfold mixF
  rw [if_pos (by omega)]
theorem BRaw.ext {w : World} {b g n : Nat} {f f' : Nat → Bool} (h : BRaw w b g n f) (e : ∀ k, k < (n + 63) / 64 → wd f' k = wd f k) : BRaw w b g n f' := by
  obtain ⟨cs, hcs, hk⟩ := h.words
  exact ⟨h.head, h.ne, ⟨cs, hcs, fun k hlt => by rw [hk k hlt, e k hlt]⟩, h.small⟩

/-- What is handed back: a new set. -/
def NewSet (n : Nat) (F : Nat → Bool) (w : World) (e : Ending) (w' : World) : Prop :=
  ∃ b g : Nat, e = .returned (.tuple #[.pointer (some ⟨b, 0, none⟩), .int .i64 0]) ∧ BSet w' b g n F ∧ Mod (fun _ => False) w w' ∧ w.heap.size ≤ b ∧ w.heap.size ≤ g

set_option maxRecDepth 100000 in
set_option maxHeartbeats 2000000 in
theorem joinOk (φ : FuncId) (op : BinOp) (F : (Nat → Bool) → (Nat → Bool) → Nat → Bool) (hcall : ∀ (x y : Value) (w : World), (callFunc φ #[x, y]).run Tryd.prog w = .ok (.enter φ #[x, y]) w) (hφ : ∀ (x y : Int) (w : World), Calls Tryd.prog φ #[.int .u64 x, .int .u64 y] w fun e w' => e = .returned (.int .u64 (bits op .u64 x y)) ∧ w = w')
    (hF : ∀ f f' k, bits op .u64 (wd f k : Int) (wd f' k : Int) = (wd (F f f') k : Int)) (hF0 : ∀ f f' i, f i = false → f' i = false → F f f' i = false)
    (b g b' g' n : Nat) (f f' : Nat → Bool) (w : World) (h : BSet w b g n f) (h' : BSet w b' g' n f') :
    Calls Tryd.prog 49 #[.pointer (some ⟨b, 0, none⟩), .pointer (some ⟨b', 0, none⟩), .func (.func φ) #[] #[]] w (NewSet n (F f f') w) := by
  have c0 := h.n0
  have c0' := h'.n0
  have hsm := h.small
  obtain ⟨c, hs⟩ := h.s1
  obtain ⟨c', hs'⟩ := h'.s1
  obtain ⟨m, hmm⟩ : ∃ m, m = (n + 63) / 64 := ⟨_, rfl⟩
  rw [← hmm] at hs hs'
  have hm9 : m ≤ 1024 := by omega
  have HM := Lib.hid hmm
  have H := Lib.hid h
  have H' := Lib.hid h'
  have HF := Lib.hid hF
  have HF0 := Lib.hid hF0
  have HP := Lib.hid hφ
  obtain ⟨i0, hi, hz0, hz1, hz2⟩ := info_parts infoU64
  obtain ⟨cs, hcs, hck⟩ := h.words
  rw [← hmm] at hck
  have hcl : cs.size ≥ m := by
    rcases Nat.eq_zero_or_pos m with e | e
    · omega
    · have := (Array.getElem?_eq_some_iff.1 (hck (m - 1) (by omega))).1
      omega
  have hclone : ∀ k, Calls Tryd.prog 60 #[.slice (some ⟨g, 0, none⟩) m c] (w.drewN k) fun e w' => ∃ v', e = .returned v' ∧ w'.ownsRow w.heap.size 37 1 v' m (cs.toList.take m) ∧ v' ≠ .slice none 0 0 ∧ Below w.heap.size (w.drewN k) w' := fun k =>
    Tryd.slices_Clone i0 (.int .u64 0) 1 8 hi hz0 hz1 hz2 rfl (by decide) Tryd.sizeOf37 g 0 m c (cs.toList.take m) _ (by simp; omega) (by unfold maxLen; omega) (by omega) (fun j u hj => by
      rw [Nat.zero_add, World.cell?_drewN, hcs.cell]
      rw [List.getElem?_take] at hj
      split at hj
      · simpa using hj
      · cases hj) (fun u hu => by
        obtain ⟨j, hj⟩ := List.getElem?_of_mem hu
        rw [List.getElem?_take] at hj
        split at hj
        · rename_i hjm
          have := hck j hjm
          simp at hj
          rw [hj] at this
          cases this
          rfl
        · cases hj)
  have HC := Lib.hid hclone
  clear h h' hF hF0 hφ hmm hclone hi hz0 hz1 hz2
  go_enter Tryd.func49, Tryd.ntmps49
  go_wp2_with fail
  go_quiet (fail)
  go_wp2_with fail
  refine wp_region2 [(3, 3), (8, 4)] [] (by kernel_rfl) (by kernel_rfl) ?_
  repeat (first | (refine reg_anyT (by rfl) (fun K hK => ?_); go_simp; refine hK _ _ ?_; clear hK K) | (refine reg_read (by rfl) (fun K hK => ?_); go_simp; refine hK _ _ ?_; clear hK K))
  refine reg_hold_v (by rfl) (by rfl) (.int .i64 n) (fun w' hw' => q_load _ _ _ rfl rfl Tryd.isAgg3 (hw'.cell c0)) ?_
  repeat (first | (refine reg_anyT (by rfl) (fun K hK => ?_); go_simp; refine hK _ _ ?_; clear hK K) | (refine reg_read (by rfl) (fun K hK => ?_); go_simp; refine hK _ _ ?_; clear hK K))
  refine reg_new (by rfl) (fun rn K hK => ?_); go_simp
  refine (HC.out _).mono ?_; rintro e w1 ⟨v1, rfl, o1, hv1, bl⟩
  refine hK _ _ ⟨⟨bl.size, fun k hk => bl.block k hk⟩, ?_⟩; clear hK K
  obtain ⟨ol, o2⟩ := o1
  rcases o2 with ⟨rfl, _⟩ | ⟨g2, cap, cur, rfl, hg2, hh, hcap, _, _, htk⟩
  · exact absurd rfl hv1
  repeat (first | (refine reg_anyT (by rfl) (fun K hK => ?_); go_simp; refine hK _ _ ?_; clear hK K) | (refine reg_read (by rfl) (fun K hK => ?_); go_simp; refine hK _ _ ?_; clear hK K))
  refine reg_eff (by rfl) (fun rn K hK => ?_); go_simp; refine hK _ _ ?_; clear hK K
  repeat (first | (refine reg_anyT (by rfl) (fun K hK => ?_); go_simp; refine hK _ _ ?_; clear hK K) | (refine reg_read (by rfl) (fun K hK => ?_); go_simp; refine hK _ _ ?_; clear hK K))
  refine reg_nil (fun nd => ?_)
  have m1 : Mod (fun _ => False) w w1 := ⟨bl.os, bl.tape, bl.output, bl.size, fun k hk _ => bl.block k hk⟩
  generalize hw3 : World.drewN (World.alloc (World.drewN w1 _) _) nd = w3
  have m3 : Mod (fun _ => False) w w3 := by rw [← hw3]; exact ((m1.drewN _).alloc _).drewN _
  have hb3 : Blk w3 w1.heap.size #[.int .i64 n, .slice (some ⟨g2, 0, none⟩) m cap] 72 := by rw [← hw3]; exact (Blk.new (w1.drewN _) _ _).drewN _
  have hg3 : Blk w3 g2 cur 37 := by
    have h1 : Blk w1 g2 cur 37 := hh
    rw [← hw3]
    exact ((h1.drewN _).alloc _).drewN _
  obtain ⟨B3, hB3⟩ : ∃ B, B = w1.heap.size := ⟨_, rfl⟩
  rw [← hB3] at hb3 ⊢
  have hg2lt : g2 < w1.heap.size := (Array.getElem?_eq_some_iff.1 hh).1
  have hr0 : BRaw w3 B3 g2 n (mixF (F f f') f 0) := by
    refine ⟨⟨cap, by rw [← HM.out]; exact hb3⟩, by omega, ⟨cur, hg3, fun k hk => ?_⟩, H.out.small⟩
    have hk' : k < m := by rw [HM.out]; exact hk
    have e0 : wd (mixF (F f f') f 0) k = wd f k := pk_ext fun i _ => by unfold mixF; rw [if_neg (by omega)]
    rw [e0, ← hck k hk']
    have h1 := congrArg (·[k]?) htk
    simp only [List.getElem?_take, Nat.mul_one, if_pos hk'] at h1
    simpa using h1
  have HR0 := Lib.hid hr0
  have hb9 : w.heap.size ≤ B3 := by rw [hB3]; exact m1.size
  have hs3 : w3.cell? ⟨b', 1, none⟩ = some (.slice (some ⟨g', 0, none⟩) m c') := m3.cell hs' (fun h => h)
  have hl := H'.out.lt
  clear hr0 hb3 hg3 hw3 m1 bl hh htk hv1 ol hck hcl hcs hg2lt hB3 c0 c0' hs hs'
  go_wp2_with fail
  clear hs3
  go_loopw [40] (fun v wr => ∃ k : Nat, v = .int .i64 k ∧ k ≤ m ∧ Hid (BRaw wr B3 g2 n (mixF (F f f') f k)) ∧ Mod (· = g2) w3 wr) (fun v _ => m - (intOf v).toNat)
  case atStart => exact ⟨0, rfl, Nat.zero_le _, HR0, Mod.refl _ _⟩
  case round =>
    obtain ⟨k, rfl, hk, hr, hm⟩ := hrel
    by_cases hlt : k < m
    · obtain ⟨d1, d2⟩ := hr.out.word (k := k) (by rw [← HM.out]; exact hlt)
      obtain ⟨cc, d3⟩ := hr.out.s1
      rw [← HM.out] at d3
      rw [wd_mix_at] at d1
      have ho := (H'.out.mod m3 (fun h => h) (fun h => h)).mod hm (by show ¬ b' = g2; omega) (by show ¬ g' = g2; omega)
      obtain ⟨d4, _⟩ := ho.word (k := k) (by rw [← HM.out]; exact hlt)
      have hnx : ∀ j, BRaw ((wr.drewN j).setCell ⟨g2, k, none⟩ (.int .u64 (bits op .u64 (wd f k : Int) (wd f' k : Int)))) B3 g2 n (mixF (F f f') f (k + 1)) :=
        fun j => (hr.out.drewN j).put k _ _ (by rw [HF.out, wd_mix_new]) (fun j hj => wd_mix_out _ _ _ _ hj)
      have HNX := Lib.hid hnx
      have hlt' : (k : Int) < m := by omega
      clear hnx ho
      generalize wd f k = W at d1 HNX
      generalize wd f' k = W' at d4 HNX
      go_wp2_with fail
      refine wp_region2 [(14, 1)] [] (by kernel_rfl) (by kernel_rfl) ?_
      repeat (first | (refine reg_anyT (by rfl) (fun K hK => ?_); go_simp; refine hK _ _ ?_; clear hK K) | (refine reg_read (by rfl) (fun K hK => ?_); go_simp; refine hK _ _ ?_; clear hK K))
      refine reg_read (by rfl) (fun K hK => ?_); go_simp
      refine ⟨_, fun rn => rd_same (HP.out _ _ _), hK _ _ ?_⟩; clear hK K
      repeat (first | (refine reg_anyT (by rfl) (fun K hK => ?_); go_simp; refine hK _ _ ?_; clear hK K) | (refine reg_read (by rfl) (fun K hK => ?_); go_simp; refine hK _ _ ?_; clear hK K))
      refine reg_eff (by rfl) (fun rn K hK => ?_); go_simp; refine hK _ _ ?_; clear hK K
      repeat (first | (refine reg_anyT (by rfl) (fun K hK => ?_); go_simp; refine hK _ _ ?_; clear hK K) | (refine reg_read (by rfl) (fun K hK => ?_); go_simp; refine hK _ _ ?_; clear hK K))
      refine reg_nil (fun nd => ?_)
      go_wp2_with fail
      go_roundw
      case rel => exact ⟨k + 1, by go_num, by omega, ((HNX.out rn).drewN _), ((hm.drewN _).setCell (p := ⟨g2, k, none⟩) (.inl rfl) _).drewN _⟩
      case measure => simp [intOf]; omega
    · obtain rfl : k = m := by omega
      have hfin : BSet wr B3 g2 n (F f f') := by
        refine ⟨hr.out.ext fun j hj => pk_ext fun i hi => ?_, fun i hi => HF0.out _ _ _ (H.out.out i hi) (H'.out.out i hi)⟩
        unfold mixF
        rw [if_pos (by have := HM.out; omega)]
      have HFIN := Lib.hid hfin
      clear hfin
      go_wp2_with fail
      go_ret2
      exact ⟨B3, g2, rfl, HFIN.out, m3.new hm (by intro i hi; omega), hb9, hg2⟩

theorem bitsOr (b g b' g' n : Nat) (f f' : Nat → Bool) (w : World) (h : BSet w b g n f) (h' : BSet w b' g' n f') :
    Calls Tryd.prog 37 #[.pointer (some ⟨b, 0, none⟩), .pointer (some ⟨b', 0, none⟩)] w (NewSet n (fOr f f') w) := by
  have hj := joinOk 50 .or fOr (fun _ _ _ => by kernel_rfl) cloOr wd_or (fun f f' i h1 h2 => by simp [fOr, h1, h2]) b g b' g' n f f' w h h'
  have HJ := Lib.hid hj
  clear hj h h'
  go_enter Tryd.func37, Tryd.ntmps37
  go_wp2_with fail
  refine HJ.out.mono ?_; rintro e w' ⟨x, y, rfl, h1, h2, h3, h4⟩
  go_wp2_with fail
  go_ret2
  exact ⟨x, y, rfl, h1, h2, h3, h4⟩
theorem bitsLess (b g b' g' n : Nat) (f f' : Nat → Bool) (w : World) (h : BSet w b g n f) (h' : BSet w b' g' n f') :
    Calls Tryd.prog 39 #[.pointer (some ⟨b, 0, none⟩), .pointer (some ⟨b', 0, none⟩)] w (NewSet n (fLess f f') w) := by
  have hj := joinOk 52 .andNot fLess (fun _ _ _ => by kernel_rfl) cloLess wd_less (fun f f' i h1 h2 => by simp [fLess, h1]) b g b' g' n f f' w h h'
  have HJ := Lib.hid hj
  clear hj h h'
  go_enter Tryd.func39, Tryd.ntmps39
  go_wp2_with fail
  refine HJ.out.mono ?_; rintro e w' ⟨x, y, rfl, h1, h2, h3, h4⟩
  go_wp2_with fail
  go_ret2
  exact ⟨x, y, rfl, h1, h2, h3, h4⟩
end Go.Proofs.YtjmfhcliggjdgaaDoor

/- Plain facts on the numbers of package draw: what a state's number is, that unlike states have unlike numbers, that a number below n is below n; no condition. -/
namespace Go.Proofs.YtjmfhcliggjdgaaDoor
open Go.RowKit

/-- A state's next state. -/
def stp (s : Int) : Int := IntKind.u64.wrap (s + 11400714819323198485)
/-- A state's number. -/
def mix (z : Int) : Int :=
  let a := IntKind.u64.wrap (bits BinOp.xor IntKind.u64 z (z / 1073741824) * 13787848793156543929)
  let b := IntKind.u64.wrap (bits BinOp.xor IntKind.u64 a (a / 134217728) * 10723151780598845931)
  bits BinOp.xor IntKind.u64 b (b / 2147483648)
def U64 (s : Int) : Prop := 0 ≤ s ∧ s < 18446744073709551616
theorem U64.toNat {s : Int} (h : U64 s) : s.toNat < 18446744073709551616 := by unfold U64 at h; omega
theorem U64.cast {s : Int} (h : U64 s) : ((s.toNat : Nat) : Int) = s := Int.toNat_of_nonneg h.1
theorem U64.of_wf {s : Int} (h : (Lit.int .u64 s).wf = true) : U64 s := by
  simp [Lit.wf, IntKind.min, IntKind.max, IntKind.signed, IntKind.bits] at h
  unfold U64; omega
theorem stp_u (s : Int) : U64 (stp s) := by
  unfold stp U64
  rw [IntKind.wrap_u64]
  omega

/-- The same over natural numbers. -/
def mixN (z : Nat) : Nat :=
  let a := (z ^^^ z / 1073741824) * 13787848793156543929 % 18446744073709551616
  let b := (a ^^^ a / 134217728) * 10723151780598845931 % 18446744073709551616
  b ^^^ b / 2147483648
theorem xs_lt (a s : Nat) (h : a < 18446744073709551616) : a ^^^ a / s < 18446744073709551616 :=
  Nat.xor_lt_two_pow (n := 64) h (Nat.lt_of_le_of_lt (Nat.div_le_self _ _) h)
theorem mix_nat (z : Nat) (h : z < 18446744073709551616) : mix (z : Int) = (mixN z : Int) := by
  have h1 : (z ^^^ z / 1073741824) * 13787848793156543929 % 18446744073709551616 < 18446744073709551616 := Nat.mod_lt _ (by omega)
  unfold mix mixN
  have e1 : bits .xor .u64 (z : Int) ((z : Int) / 1073741824) = ((z ^^^ z / 1073741824 : Nat) : Int) := xorShift_u64 z 1073741824 h
  have w1 : ∀ x : Nat, IntKind.u64.wrap ((x : Int) * 13787848793156543929) = ((x * 13787848793156543929 % 18446744073709551616 : Nat) : Int) := fun x => by rw [IntKind.wrap_u64]; omega
  have w2 : ∀ x : Nat, IntKind.u64.wrap ((x : Int) * 10723151780598845931) = ((x * 10723151780598845931 % 18446744073709551616 : Nat) : Int) := fun x => by rw [IntKind.wrap_u64]; omega
  have e2 : ∀ a : Nat, a < 18446744073709551616 → bits .xor .u64 (a : Int) ((a : Int) / 134217728) = ((a ^^^ a / 134217728 : Nat) : Int) := fun a ha => xorShift_u64 a 134217728 ha
  have e3 : ∀ a : Nat, a < 18446744073709551616 → bits .xor .u64 (a : Int) ((a : Int) / 2147483648) = ((a ^^^ a / 2147483648 : Nat) : Int) := fun a ha => xorShift_u64 a 2147483648 ha
  dsimp only
  rw [e1, w1, e2 _ h1, w2, e3 _ (Nat.mod_lt _ (by omega))]
theorem mixN_lt (z : Nat) : mixN z < 18446744073709551616 := xs_lt _ _ (Nat.mod_lt _ (by omega))
theorem mix_u' (s : Int) (h : U64 s) : U64 (mix s) := by
  have e := mix_nat s.toNat h.toNat
  rw [h.cast] at e
  rw [e]
  have := mixN_lt s.toNat
  unfold U64; omega
def nxD (s : Int) : Int := mix (stp s)
theorem nxD_u (s : Int) : U64 (nxD s) := mix_u' _ (stp_u s)

theorem xor_zero_eq {a b : Nat} (h : a ^^^ b = 0) : a = b := by
  have e : (a ^^^ b) ^^^ b = a := by rw [Nat.xor_assoc, Nat.xor_self, Nat.xor_zero]
  rw [h, Nat.zero_xor] at e
  exact e.symm
theorem xs_inj (a b s : Nat) (hs : 2 ≤ s) (hp : ∃ k, s = 2 ^ k) (h : a ^^^ a / s = b ^^^ b / s) : a = b := by
  obtain ⟨k, rfl⟩ := hp
  simp only [← Nat.shiftRight_eq_div_pow] at h
  have e : a ^^^ b = (a ^^^ b) >>> k := by
    rw [Nat.shiftRight_xor_distrib]
    have : (a ^^^ a >>> k) ^^^ (b ^^^ b >>> k) = 0 := by rw [h, Nat.xor_self]
    have h2 : (a ^^^ b) ^^^ (a >>> k ^^^ b >>> k) = 0 := by
      rw [← this]; ac_rfl
    exact xor_zero_eq h2
  rw [Nat.shiftRight_eq_div_pow] at e
  have : a ^^^ b = 0 := by
    rcases Nat.eq_zero_or_pos (a ^^^ b) with h0 | h0
    · exact h0
    · have := Nat.div_lt_self h0 (show 1 < 2 ^ k by omega)
      omega
  exact xor_zero_eq this
theorem mul_inj (a b c d : Nat) (ha : a < 18446744073709551616) (hb : b < 18446744073709551616) (hcd : c * d % 18446744073709551616 = 1) (h : a * c % 18446744073709551616 = b * c % 18446744073709551616) : a = b := by
  have k : ∀ x : Nat, x < 18446744073709551616 → (x * c % 18446744073709551616) * d % 18446744073709551616 = x := fun x hx => by
    rw [Nat.mod_mul_mod, Nat.mul_assoc, Nat.mul_mod, hcd, Nat.mul_one, Nat.mod_mod, Nat.mod_eq_of_lt hx]
  rw [← k a ha, ← k b hb, h]
theorem xs31 (a b : Nat) (h : a ^^^ a / 2147483648 = b ^^^ b / 2147483648) : a = b := xs_inj a b 2147483648 (by omega) ⟨31, by decide⟩ h
theorem xs27 (a b : Nat) (h : a ^^^ a / 134217728 = b ^^^ b / 134217728) : a = b := xs_inj a b 134217728 (by omega) ⟨27, by decide⟩ h
theorem xs30 (a b : Nat) (h : a ^^^ a / 1073741824 = b ^^^ b / 1073741824) : a = b := xs_inj a b 1073741824 (by omega) ⟨30, by decide⟩ h
theorem mu1 (a b : Nat) (ha : a < 18446744073709551616) (hb : b < 18446744073709551616) (h : a * 10723151780598845931 % 18446744073709551616 = b * 10723151780598845931 % 18446744073709551616) : a = b :=
  mul_inj a b 10723151780598845931 3573116690164977347 ha hb (by decide +kernel) h
theorem mu2 (a b : Nat) (ha : a < 18446744073709551616) (hb : b < 18446744073709551616) (h : a * 13787848793156543929 % 18446744073709551616 = b * 13787848793156543929 % 18446744073709551616) : a = b :=
  mul_inj a b 13787848793156543929 10871156337175269513 ha hb (by decide +kernel) h
theorem mixN_inj (a b : Nat) (ha : a < 18446744073709551616) (hb : b < 18446744073709551616) (h : mixN a = mixN b) : a = b := by
  unfold mixN at h
  exact xs30 _ _ (mu2 _ _ (xs_lt _ _ ha) (xs_lt _ _ hb) (xs27 _ _ (mu1 _ _ (xs_lt _ _ (Nat.mod_lt _ (by omega))) (xs_lt _ _ (Nat.mod_lt _ (by omega))) (xs31 _ _ h))))
theorem nxD_inj {a b : Int} (ha : U64 a) (hb : U64 b) (h : nxD a = nxD b) : a = b := by
  have h1 : stp a = stp b := by
    have e := mix_nat (stp a).toNat (stp_u a).toNat
    have e' := mix_nat (stp b).toNat (stp_u b).toNat
    rw [(stp_u a).cast] at e
    rw [(stp_u b).cast] at e'
    unfold nxD at h
    rw [e, e'] at h
    have := mixN_inj _ _ (stp_u a).toNat (stp_u b).toNat (by omega)
    rw [← (stp_u a).cast, ← (stp_u b).cast, this]
  unfold stp at h1
  rw [IntKind.wrap_u64, IntKind.wrap_u64] at h1
  unfold U64 at ha hb
  omega

/-- The upper half of a product. -/
def hi64 (x n : Int) : Int := ((x.toNat * n.toNat / 18446744073709551616 : Nat) : Int)
/-- The number below n. -/
def blw (s n : Int) : Int := hi64 (nxD s) n
theorem hi64_u {x n : Int} (hx : U64 x) (hn : U64 n) : U64 (hi64 x n) := by
  have h : x.toNat * n.toNat ≤ x.toNat * 18446744073709551616 := Nat.mul_le_mul_left _ (Nat.le_of_lt hn.toNat)
  have h2 : x.toNat * n.toNat / 18446744073709551616 ≤ x.toNat := by omega
  have := hx.toNat
  unfold hi64 U64; omega
theorem blw_u (s : Int) {n : Int} (hn : U64 n) : U64 (blw s n) := hi64_u (nxD_u s) hn
theorem hi64_lt {x n : Int} (hx : U64 x) (hn : 0 < n) : hi64 x n < n := by
  have h := hx.toNat
  have h2 : x.toNat * n.toNat < 18446744073709551616 * n.toNat := Nat.mul_lt_mul_of_pos_right h (by omega)
  have h3 : x.toNat * n.toNat / 18446744073709551616 < n.toNat := by omega
  unfold hi64; omega
theorem blw_lt (s : Int) {n : Int} (hn : 0 < n) : blw s n < n := hi64_lt (nxD_u s) hn
theorem blw_zero (s : Int) : blw s 0 = 0 := by unfold blw hi64; simp
theorem blw_nonneg (s n : Int) : 0 ≤ blw s n := by unfold blw hi64; omega

/-- What the reference's Below comes to, as the walk spells it. -/
def refB (x n : Int) : Int :=
  let W := IntKind.u64.wrap
  let M : Int := 4294967296
  W (W (W (W (x.tdiv M) * W (n.tdiv M)) + W ((W (W (W (x.tdiv M) * n.tmod M) + W ((W (x.tmod M * n.tmod M)).tdiv M))).tdiv M)) + W ((W (W (x.tmod M * W (n.tdiv M)) + (W (W (W (x.tdiv M) * n.tmod M) + W ((W (x.tmod M * n.tmod M)).tdiv M))).tmod M)).tdiv M))
theorem refB_eq {x n : Int} (hx : U64 x) (hn : U64 n) : refB x n = hi64 x n := by
  obtain ⟨X, rfl⟩ := Int.eq_ofNat_of_zero_le hx.1
  obtain ⟨N, rfl⟩ := Int.eq_ofNat_of_zero_le hn.1
  have hX : X < 18446744073709551616 := by have := hx.2; omega
  have hN : N < 18446744073709551616 := by have := hn.2; omega
  obtain ⟨bd, bt, bw, hhi⟩ := Lib.mul64_hi X N hX hN
  have ha := Lib.half_mul_le (a := X / 4294967296) (b := N / 4294967296) (by omega) (by omega)
  have hb := Lib.half_mul_le (a := X / 4294967296) (b := N % 4294967296) (by omega) (by omega)
  have hc := Lib.half_mul_le (a := X % 4294967296) (b := N / 4294967296) (by omega) (by omega)
  have hd := Lib.half_mul_le (a := X % 4294967296) (b := N % 4294967296) (by omega) (by omega)
  have wr : ∀ k : Nat, k < 18446744073709551616 → IntKind.u64.wrap (k : Int) = (k : Int) := fun k hk => by rw [IntKind.wrap_u64]; omega
  have td : ∀ k : Nat, (k : Int).tdiv 4294967296 = ((k / 4294967296 : Nat) : Int) := fun k => by rw [Int.tdiv_eq_ediv_of_nonneg (by omega)]; omega
  have tm : ∀ k : Nat, (k : Int).tmod 4294967296 = ((k % 4294967296 : Nat) : Int) := fun k => by rw [Int.tmod_eq_emod_of_nonneg (by omega)]; omega
  have mu : ∀ a b : Nat, (a : Int) * (b : Int) = ((a * b : Nat) : Int) := fun a b => (Int.natCast_mul a b).symm
  have ad : ∀ a b : Nat, (a : Int) + (b : Int) = ((a + b : Nat) : Int) := fun a b => (Int.natCast_add a b).symm
  unfold refB hi64
  dsimp only
  rw [Int.toNat_natCast, Int.toNat_natCast, ← hhi]
  simp only [td, tm]
  rw [wr (X / 4294967296) (by omega), wr (N / 4294967296) (by omega)]
  simp only [mu]
  rw [wr _ bd, td, wr _ (by omega : X % 4294967296 * (N % 4294967296) / 4294967296 < 18446744073709551616)]
  generalize (X / 4294967296) * (N / 4294967296) = a at *
  generalize (X / 4294967296) * (N % 4294967296) = b at *
  generalize (X % 4294967296) * (N / 4294967296) = c at *
  generalize (X % 4294967296) * (N % 4294967296) = d at *
  rw [wr a (by omega), wr b (by omega), wr c (by omega), ad, wr _ bt, td, tm, wr ((b + d / 4294967296) / 4294967296) (by omega), ad, ad, wr _ (by omega), wr _ (by omega : c + (b + d / 4294967296) % 4294967296 < 18446744073709551616), td, wr ((c + (b + d / 4294967296) % 4294967296) / 4294967296) (by omega), ad, wr _ (by omega)]
  omega

end Go.Proofs.YtjmfhcliggjdgaaDoor

/- What the numbers of package draw, and of its reference, are: the contracts of New, Next, State, Below, Chance on both sides; no condition. -/
namespace Go.Proofs.YtjmfhcliggjdgaaDoor
open Go.RowKit

set_option maxHeartbeats 400000 in
theorem drawNew (s : Int) (w : World) :
    Calls Tryd.prog 41 #[.int .u64 s] w fun e w' => e = .returned (.pointer (some ⟨w.heap.size, 0, none⟩)) ∧ w.alloc (.cells #[.int .u64 s] 106) = w' := by
  go_enter Tryd.func41, Tryd.ntmps41
  go_wp2
  go_ret
  exact ⟨rfl, rfl⟩

set_option maxHeartbeats 400000 in
theorem drawNext (s : Int) (b : Nat) (w : World) (hc : w.cell? ⟨b, 0, none⟩ = some (.int .u64 s)) (hf : w.frozen? ⟨b, 0, none⟩ = false) :
    Calls Tryd.prog 56 #[.pointer (some ⟨b, 0, none⟩)] w fun e w' => e = .returned (.int .u64 (nxD s)) ∧ w.setCell ⟨b, 0, none⟩ (.int .u64 (stp s)) = w' := by
  go_enter Tryd.func56, Tryd.ntmps56
  go_wp2
  go_ret
  exact ⟨rfl, rfl⟩


theorem mul64 (x y : Int) (w : World) (hx : U64 x) (hy : U64 y) :
    Calls Tryd.prog 55 #[.int .u64 x, .int .u64 y] w fun e w' => ∃ lo, e = .returned (.tuple #[.int .u64 (hi64 x y), .int .u64 lo]) ∧ w = w' := by
  obtain ⟨h1, h2⟩ := hx
  obtain ⟨h3, h4⟩ := hy
  have h := Tryd.bits_Mul64 x.toNat y.toNat (by omega) (by omega) w
  rw [Int.toNat_of_nonneg h1, Int.toNat_of_nonneg h3] at h
  exact h.mono fun e w' ⟨he, hw⟩ => ⟨_, he, hw.symm⟩

set_option maxHeartbeats 400000 in
theorem drawBelow (s n : Int) (b : Nat) (w : World) (hc : w.cell? ⟨b, 0, none⟩ = some (.int .u64 s)) (hf : w.frozen? ⟨b, 0, none⟩ = false) (hn : U64 n) :
    Calls Tryd.prog 42 #[.pointer (some ⟨b, 0, none⟩), .int .u64 n] w fun e w' => e = .returned (.int .u64 (blw s n)) ∧ w.setCell ⟨b, 0, none⟩ (.int .u64 (stp s)) = w' := by
  go_enter Tryd.func42, Tryd.ntmps42
  go_wp2_with (first | (go_at_call 56; refine (drawNext _ _ _ hc hf).mono ?_; rintro e w' ⟨rfl, rfl⟩) | (go_at_call 55; refine (mul64 _ _ _ (nxD_u _) hn).mono ?_; rintro e w' ⟨lo, rfl, rfl⟩))
  go_ret
  exact ⟨rfl, rfl⟩






end Go.Proofs.YtjmfhcliggjdgaaDoor

/- Package rarest: the board, New, copied, count; of TrailingZeros64's table: as it is laid. -/
namespace Go.Proofs.YtjmfhcliggjdgaaDoor
open Go Go.RowKit

theorem infoInt : (Tryd.prog.info? 3).map (fun i => (i.zero, i.size, i.bytes)) = some (some (.int .i64 0), 1, 8) := by kernel_rfl
/-- How many have each piece, as the cells of block g. -/
def Cn (w : World) (g n : Nat) (c : Nat → Int) : Prop := ∃ cs : Array Value, Blk w g cs 3 ∧ ∀ k, k < n → cs[k]? = some (.int .i64 (c k))
theorem Cn.lt {w : World} {g n : Nat} {c : Nat → Int} (h : Cn w g n c) : g < w.heap.size := by obtain ⟨cs, h1, _⟩ := h; exact h1.lt
theorem Cn.mod {S : Nat → Prop} {w w' : World} {g n : Nat} {c : Nat → Int} (h : Cn w g n c) (hm : Mod S w w') (hg : ¬ S g) : Cn w' g n c := by
  obtain ⟨cs, h1, h2⟩ := h
  exact ⟨cs, h1.mod hm hg, h2⟩
theorem Cn.at {w : World} {g n : Nat} {c : Nat → Int} (h : Cn w g n c) {k : Nat} (hk : k < n) : w.cell? ⟨g, k, none⟩ = some (.int .i64 (c k)) ∧ w.frozen? ⟨g, k, none⟩ = false := by
  obtain ⟨cs, h1, h2⟩ := h
  exact ⟨by rw [h1.cell]; exact h2 k hk, h1.frozen k⟩
theorem Cn.put {w : World} {g n : Nat} {c c' : Nat → Int} (h : Cn w g n c) (q : Nat) (v : Int) (hv : v = c' q) (hne : ∀ k, k < n → k ≠ q → c' k = c k) : Cn (w.setCell ⟨g, q, none⟩ (.int .i64 v)) g n c' := by
  obtain ⟨cs, h1, h2⟩ := h
  refine ⟨_, h1.set q _, fun k hk => ?_⟩
  have h0 := h2 k hk
  have h3 := (Array.getElem?_eq_some_iff.1 h0).1
  by_cases e : k = q
  · subst e
    rw [Array.getElem?_setIfInBounds_self_of_lt h3, hv]
  · rw [Array.getElem?_setIfInBounds_ne (Ne.symm e), h0, hne k hk e]
theorem Cn.ext {w : World} {g n : Nat} {c c' : Nat → Int} (h : Cn w g n c) (e : ∀ k, k < n → c' k = c k) : Cn w g n c' := by
  obtain ⟨cs, h1, h2⟩ := h
  exact ⟨cs, h1, fun k hk => by rw [h2 k hk, e k hk]⟩

/-- A set of one's own: its blocks, its places. -/
structure Ow where
  s : Nat
  g : Nat
  f : Nat → Bool
def mpO (ks : List (Int × Ow)) : List (Int × Value) := ks.map fun p => (p.1, .pointer (some ⟨p.2.s, 0, none⟩))
/-- The blocks of a board. -/
def BDb (b M g : Nat) (ks : List (Int × Ow)) (i : Nat) : Prop := i = b ∨ i = M ∨ i = g ∨ ∃ q ∈ ks, i = q.2.s ∨ i = q.2.g
/-- A board. -/
structure BD (w : World) (b M g n : Nat) (most : Int) (c : Nat → Int) (ks : List (Int × Ow)) : Prop where
  head : Blk w b #[.int .i64 n, .int .i64 most, .map (some M), .slice (some ⟨g, 0, none⟩) n n] 76
  map : IMap Tryd.prog 3 w M (mpO ks)
  cn : Cn w g n c
  sets : ∀ q ∈ ks, BSet w q.2.s q.2.g n q.2.f
  ne : b ≠ M ∧ b ≠ g ∧ M ≠ g
  off : ∀ q ∈ ks, q.2.s ≠ b ∧ q.2.s ≠ M ∧ q.2.s ≠ g ∧ q.2.g ≠ b ∧ q.2.g ≠ M ∧ q.2.g ≠ g
  two : ks.Pairwise fun p q => p.2.s ≠ q.2.s ∧ p.2.s ≠ q.2.g ∧ p.2.g ≠ q.2.s ∧ p.2.g ≠ q.2.g
  tab : ∀ i, BDb b M g ks i → gTab < i
theorem BD.mod {S : Nat → Prop} {w w' : World} {b M g n : Nat} {most : Int} {c : Nat → Int} {ks : List (Int × Ow)} (h : BD w b M g n most c ks) (hm : Mod S w w') (hS : ∀ i, BDb b M g ks i → ¬ S i) : BD w' b M g n most c ks :=
  ⟨h.head.mod hm (hS _ (.inl rfl)), h.map.mod hm (hS _ (.inr (.inl rfl))), h.cn.mod hm (hS _ (.inr (.inr (.inl rfl)))), fun q hq => (h.sets q hq).mod hm (hS _ (.inr (.inr (.inr ⟨q, hq, .inl rfl⟩)))) (hS _ (.inr (.inr (.inr ⟨q, hq, .inr rfl⟩)))), h.ne, h.off, h.two, h.tab⟩
theorem BD.new {w w' : World} {b M g n : Nat} {most : Int} {c : Nat → Int} {ks : List (Int × Ow)} (h : BD w b M g n most c ks) (hm : Mod (fun _ => False) w w') : BD w' b M g n most c ks := h.mod hm fun _ _ h => h
theorem BD.drewN {w : World} {b M g n : Nat} {most : Int} {c : Nat → Int} {ks : List (Int × Ow)} (h : BD w b M g n most c ks) (k : Nat) : BD (w.drewN k) b M g n most c ks := h.new ((Mod.refl _ w).drewN k)
theorem BD.lt {w : World} {b M g n : Nat} {most : Int} {c : Nat → Int} {ks : List (Int × Ow)} (h : BD w b M g n most c ks) {i : Nat} (hi : BDb b M g ks i) : i < w.heap.size := by
  rcases hi with rfl | rfl | rfl | ⟨q, hq, rfl | rfl⟩
  · exact h.head.lt
  · exact h.map.lt
  · exact h.cn.lt
  · exact (h.sets q hq).lt.1
  · exact (h.sets q hq).lt.2

theorem lk_mpO (ks : List (Int × Ow)) (id : Int) : lkL (mpO ks) id = (lkL ks id).map fun o => .pointer (some ⟨o.s, 0, none⟩) := by
  unfold lkL mpO
  rw [List.find?_map]
  show Option.map _ (Option.map _ (ks.find? fun p => p.1 == id)) = _
  cases ks.find? fun p => p.1 == id <;> rfl
theorem del_mpO (ks : List (Int × Ow)) (id : Int) : delL (mpO ks) id = mpO (delL ks id) := by
  unfold delL mpO
  rw [List.filter_map]
  rfl
theorem ins_mpO (id : Int) (o : Ow) : ∀ ks : List (Int × Ow), insS (id, .pointer (some ⟨o.s, 0, none⟩)) (mpO ks) = mpO (insS (id, o) ks)
  | [] => rfl
  | q :: t => by
    show insS (id, _) ((q.1, _) :: mpO t) = mpO (insS (id, o) (q :: t))
    unfold insS
    by_cases h : id < q.1
    · rw [if_pos h, if_pos h]; rfl
    · rw [if_neg h, if_neg h, ins_mpO id o t]; rfl
theorem put_mpO (ks : List (Int × Ow)) (id : Int) (o : Ow) : putL (mpO ks) id (.pointer (some ⟨o.s, 0, none⟩)) = mpO (putL ks id o) := by
  unfold putL
  rw [del_mpO, ins_mpO]
theorem mpO_len (ks : List (Int × Ow)) : (mpO ks).length = ks.length := by simp [mpO]
theorem zeroPtr (w : World) : (zeroValue 28).run Tryd.prog w = .ok (.pointer none) w := by kernel_rfl

/-- A board of so many pieces. -/
def BoardOk (n most : Int) : Prop := 1 ≤ n ∧ n ≤ 1024 ∧ 1 ≤ most ∧ most ≤ 64
instance (a b : Int) : Decidable (BoardOk a b) := by unfold BoardOk; infer_instance
set_option maxRecDepth 100000 in
set_option maxHeartbeats 1000000 in
theorem rareNew (n : Nat) (most : Int) (w : World) (h : BoardOk n most) (hT : TabW w) :
    Calls Tryd.prog 13 #[.int .i64 n, .int .i64 most] w fun e w' => e = .returned (.tuple #[.pointer (some ⟨w.heap.size + 2, 0, none⟩), .int .i64 0]) ∧ BD w' (w.heap.size + 2) w.heap.size (w.heap.size + 1) n most (fun _ => 0) [] ∧ Mod (fun _ => False) w w' ∧ w'.heap.size = w.heap.size + 3 := by
  obtain ⟨i0, hi, hz0, hz1, hz2⟩ := info_parts infoInt
  have hmk := run_makeSlice (P := Tryd.prog) (w.alloc (.map #[] 0)) 36 3 i0 (.int .i64 0) Tryd.underlying36 hi hz0 .i64 .i64 (n : Int) (n : Int) (by omega) (Int.le_refl _) (by rw [hz1]; unfold BoardOk at h; omega) (by rw [hz2]; unfold BoardOk at h; omega) (by unfold BoardOk at h; omega)
  rw [hz1] at hmk
  rw [Int.toNat_natCast] at hmk
  obtain ⟨h1, h2, h3, h4⟩ := h
  have g1 : ¬ (n : Int) < 1 := by omega
  have g2 : ¬ (1024 : Int) < n := by omega
  have g3 : ¬ most < 1 := by omega
  have g4 : ¬ 64 < most := by omega
  have hmm := @run_makeMap Tryd.prog
  have hg := hT.lt
  clear hi hz0 hz1 hz2 hT
  go_enter Tryd.func13, Tryd.ntmps13
  go_wp2_with fail
  go_ret2
  refine ⟨rfl, ⟨?_, ((IMap.made Tryd.prog 3 w).alloc _).alloc _, ?_, by simp, by omega, by simp, List.Pairwise.nil, by rintro i (rfl | rfl | rfl | ⟨q, hq, _⟩) <;> first | omega | (simp at hq)⟩, (((Mod.refl _ w).alloc _).alloc _).alloc _, by simp⟩
  · have := Blk.new ((w.alloc (.map #[] 0)).alloc (.cells (madeCells #[Value.int .i64 0] n) 3)) #[.int .i64 n, .int .i64 most, .map (some w.heap.size), .slice (some ⟨w.heap.size + 1, 0, none⟩) n n] 76
    simpa using this
  · refine ⟨madeCells #[Value.int .i64 0] n, ?_, fun k hk => by rw [made_get _ _ _ rfl hk]; rfl⟩
    have := (Blk.new (w.alloc (.map #[] 0)) (madeCells #[Value.int .i64 0] n) 3).alloc (.cells #[.int .i64 n, .int .i64 most, .map (some w.heap.size), .slice (some ⟨w.heap.size + 1, 0, none⟩) n n] 76)
    simpa using this
set_option maxRecDepth 100000 in
set_option maxHeartbeats 1000000 in
theorem rareNewBad (n most : Int) (w : World) (h : ¬ BoardOk n most) :
    Calls Tryd.prog 13 #[.int .i64 n, .int .i64 most] w fun e w' => e = .returned (.tuple #[.pointer none, .int .i64 1]) ∧ w = w' := by
  have HB := Lib.hid h
  clear h
  go_enter Tryd.func13, Tryd.ntmps13
  go_wp2_with fail
  all_goals first | (go_ret2; exact ⟨rfl, rfl⟩) | (exfalso; apply HB.out; unfold BoardOk; omega)

theorem fOr_self (f : Nat → Bool) : fOr f f = f := by funext x; simp [fOr]
theorem rareCopied (s sg n : Nat) (f : Nat → Bool) (w : World) (h : BSet w s sg n f) :
    Calls Tryd.prog 36 #[.pointer (some ⟨s, 0, none⟩)] w fun e w' => ∃ b g : Nat, e = .returned (.pointer (some ⟨b, 0, none⟩)) ∧ BSet w' b g n f ∧ Mod (fun _ => False) w w' ∧ w.heap.size ≤ b ∧ w.heap.size ≤ g := by
  have HO := Lib.hid (bitsOr s sg s sg n f f w h h)
  rw [fOr_self] at HO
  clear h
  go_enter Tryd.func36, Tryd.ntmps36
  go_wp2_with fail
  refine HO.out.mono ?_; rintro e w' ⟨x, y, rfl, h1, h2, h3, h4⟩
  go_wp2_with fail
  go_ret
  exact ⟨x, y, rfl, h1, h2, h3, h4⟩

/-- The counts behind those below k. -/
def cnK (c : Nat → Int) (f : Nat → Bool) (d : Int) (k : Nat) : Nat → Int := fun j => if j < k ∧ f j = true then c j + d else c j
theorem cnK_zero (c : Nat → Int) (f : Nat → Bool) (d : Int) : cnK c f d 0 = c := by funext j; simp [cnK]
def nxM (n : Nat) (v : Value) : Nat := if intOf v < 0 then 0 else n - (intOf v).toNat
theorem nxM_neg (n : Nat) : nxM n (.int .i64 (-1)) = 0 := by simp [nxM, intOf]
theorem nxM_nat (n i : Nat) : nxM n (.int .i64 (i : Int)) = n - i := by
  unfold nxM
  rw [show intOf (.int .i64 (i : Int)) = (i : Int) from rfl, if_neg (by omega)]
  rfl
theorem nxM_less {f : Nat → Bool} {n i : Nat} (h : i < n) : nxM n (.int .i64 (nx f true n (i + 1))) < nxM n (.int .i64 (i : Int)) := by
  rw [nxM_nat]
  rcases nx_spec f true n (i + 1) with ⟨hx, _⟩ | ⟨j, hx, h1, h2, _⟩
  · rw [hx, nxM_neg]; omega
  · rw [hx, nxM_nat]; omega
set_option maxRecDepth 100000 in
set_option maxHeartbeats 1000000 in
theorem rareCount (b g n s sg : Nat) (d : Int) (c : Nat → Int) (f : Nat → Bool) (w : World) (hb : w.cell? ⟨b, 3, none⟩ = some (.slice (some ⟨g, 0, none⟩) n n)) (hc : Cn w g n c) (hs : BSet w s sg n f) (hT : TabW w) (hd : -1 ≤ d ∧ d ≤ 1) (hr : ∀ k, -1000 ≤ c k ∧ c k ≤ 1000)
    (hn : n ≤ 1024) (hne : g ≠ b ∧ g ≠ s ∧ g ≠ sg ∧ g ≠ gTab) :
    Calls Tryd.prog 35 #[.pointer (some ⟨b, 0, none⟩), .pointer (some ⟨s, 0, none⟩), .int .i64 d] w fun e w' => e = .returned (.tuple #[]) ∧ Cn w' g n (cnK c f d n) ∧ Mod (· = g) w w' := by
  have HN0 := Lib.hid (bitsNext s sg n f 0 true w hs hT)
  have HC := Lib.hid hc
  have HS := Lib.hid hs
  have HT := Lib.hid hT
  have HR := Lib.hid hr
  have HNE := Lib.hid hne
  have HBB := Lib.hid hb
  clear hc hs hT hr hne hb
  go_enter Tryd.func35, Tryd.ntmps35
  go_wp2_with fail
  refine HN0.out.mono ?_; rintro e w' ⟨rfl, rfl⟩
  go_wp2_with fail
  go_loopw [6] (fun v wr => ∃ k : Nat, v = .int .i64 (nx f true n k) ∧ k ≤ n ∧ Hid (Cn wr g n (cnK c f d k)) ∧ Hid (Mod (· = g) w wr)) (fun v _ => nxM n v)
  case atStart => exact ⟨0, rfl, Nat.zero_le _, by rw [cnK_zero]; exact HC, Mod.refl _ _⟩
  case round =>
    obtain ⟨k, rfl, hk, hcn, hm⟩ := hrel
    rcases nx_spec f true n k with ⟨hx, hno⟩ | ⟨i, hx, hki, hin, hfi, hno⟩
    · have HF := Lib.hid (hcn.out.ext (c' := cnK c f d n) fun j hj => by
        unfold cnK
        by_cases h1 : j < k
        · simp [h1, hj]
        · have := hno j (by omega) hj
          rw [if_neg (fun h => this h.2), if_neg (fun h => h1 h.1)])
      rw [hx]
      clear hx hno hcn
      go_wp2_with fail
      go_end0
      exact ⟨rfl, HF.out, hm.out⟩
    · have hci := (hcn.out.at hin)
      have hce : cnK c f d k i = c i := by unfold cnK; rw [if_neg (by omega)]
      rw [hce] at hci
      obtain ⟨c1, f1⟩ := hci
      have hr := HR.out i
      have hw : IntKind.i64.wrap (c i + d) = c i + d := by unfold IntKind.wrap; simp [IntKind.bits, IntKind.signed]; omega
      have hb := hm.out.cell HBB.out (by have := HNE.out; show ¬ b = g; omega)
      have HC2 := Lib.hid (hcn.out.put (c' := cnK c f d (i + 1)) i (c i + d) (by unfold cnK; rw [if_pos ⟨by omega, hfi⟩]) (fun j hj hji => by
        unfold cnK
        by_cases h1 : j < k
        · have h2 : j < i + 1 := by omega
          simp [h1, h2]
        · by_cases h2 : j < i
          · have := hno j (by omega) h2
            rw [if_neg (fun h => this h.2), if_neg (fun h => this h.2)]
          · rw [if_neg (by omega), if_neg (by omega)]))
      have HM2 := Lib.hid (hm.out.set1 i (.int .i64 (c i + d)))
      have hin' : (i : Int) < n := by omega
      have hw2 : IntKind.i64.wrap ((i : Int) + 1) = (i : Int) + 1 := by unfold IntKind.wrap; simp [IntKind.bits, IntKind.signed]; omega
      rw [hx]
      have HIN := Lib.hid (show k ≤ i ∧ i < n from ⟨hki, hin⟩)
      generalize c i = ci at *
      clear hx hno hcn hce hr hfi
      go_wp2_with fail
      have HN1 := Lib.hid (bitsNext s sg n f ((i : Int) + 1) true (wr.setCell ⟨g, i, none⟩ (.int .i64 (ci + d))) (HS.out.mod HM2.out (by have := HNE.out; omega) (by have := HNE.out; omega)) (HT.out.mod HM2.out (by have := HNE.out; omega)))
      rw [show ((i : Int) + 1).toNat = i + 1 by omega] at HN1
      refine HN1.out.mono ?_; rintro e w' ⟨rfl, rfl⟩
      go_wp2_with fail
      exact ⟨⟨i + 1, rfl, by have := HIN.out; omega, HC2, HM2⟩, nxM_less HIN.out.2⟩
end Go.Proofs.YtjmfhcliggjdgaaDoor

/- Package rarest: Set, Count, Of; no condition but the table. -/
namespace Go.Proofs.YtjmfhcliggjdgaaDoor
open Go Go.RowKit

theorem i64_of {k : Int} (h1 : -1000000000000 ≤ k) (h2 : k ≤ 1000000000000) : I64 k := by
  show (Lit.int .i64 k).wf = true
  simp [Lit.wf, IntKind.min, IntKind.max, IntKind.signed, IntKind.bits]; omega
theorem pairwise_insS {α : Type} {R : Int × α → Int × α → Prop} (x : Int × α) : ∀ {l : List (Int × α)}, l.Pairwise R → (∀ q ∈ l, R x q) → (∀ q ∈ l, R q x) → (insS x l).Pairwise R
  | [], _, _, _ => List.pairwise_singleton _ _
  | y :: t, h, h1, h2 => by
    obtain ⟨h3, h4⟩ := List.pairwise_cons.1 h
    unfold insS
    split
    · exact List.pairwise_cons.2 ⟨h1, h⟩
    · refine List.pairwise_cons.2 ⟨fun q hq => ?_, pairwise_insS x h4 (fun q hq => h1 q (List.mem_cons_of_mem _ hq)) (fun q hq => h2 q (List.mem_cons_of_mem _ hq))⟩
      rcases mem_insS.1 hq with rfl | hq
      · exact h2 y (List.mem_cons_self ..)
      · exact h3 q hq
theorem mem_putO {α : Type} {ks : List (Int × α)} {id : Int} {r : α} {q : Int × α} (h : q ∈ putL ks id r) : q = (id, r) ∨ q ∈ ks := by
  unfold putL at h
  rcases mem_insS.1 h with h | h
  · exact .inl h
  · exact .inr (List.mem_filter.1 h).1
theorem BD.put {w w2 : World} {b M g n : Nat} {most : Int} {c c2 : Nat → Int} {ks : List (Int × Ow)} (h : BD w b M g n most c ks) {peer : Int} {x y : Nat} {f : Nat → Bool}
    (hm : Mod (fun i => i = M ∨ i = g) w w2) (him : IMap Tryd.prog 3 w2 M (mpO (putL ks peer ⟨x, y, f⟩))) (hcn : Cn w2 g n c2) (hs : BSet w2 x y n f) (hx : w.heap.size ≤ x) (hy : w.heap.size ≤ y) : BD w2 b M g n most c2 (putL ks peer ⟨x, y, f⟩) := by
  have hb := h.lt (.inl rfl)
  have hM := h.lt (.inr (.inl rfl))
  have hg := h.lt (.inr (.inr (.inl rfl)))
  have hq : ∀ q ∈ ks, q.2.s < w.heap.size ∧ q.2.g < w.heap.size := fun q hq => ⟨(h.sets q hq).lt.1, (h.sets q hq).lt.2⟩
  have hne := h.ne
  have ht := h.tab b (.inl rfl)
  refine ⟨h.head.mod hm (by omega), him, hcn, fun q hq' => ?_, h.ne, fun q hq' => ?_, ?_, fun i hi => ?_⟩
  · rcases mem_putO hq' with rfl | hq'
    · exact hs
    · have := h.off q hq'
      exact (h.sets q hq').mod hm (by omega) (by omega)
  · rcases mem_putO hq' with rfl | hq'
    · simp only
      omega
    · exact h.off q hq'
  · unfold putL
    refine pairwise_insS _ (h.two.filter _) (fun q hq' => ?_) (fun q hq' => ?_)
    · have := hq q (List.mem_filter.1 hq').1
      simp only
      omega
    · have := hq q (List.mem_filter.1 hq').1
      simp only
      omega
  · rcases hi with rfl | rfl | rfl | ⟨q, hq', e⟩
    · exact ht
    · exact h.tab _ (.inr (.inl rfl))
    · exact h.tab _ (.inr (.inr (.inl rfl)))
    · rcases mem_putO hq' with rfl | hq'
      · simp only at e
        omega
      · exact h.tab _ (.inr (.inr (.inr ⟨q, hq', e⟩)))

/-- A board and a set that came in do not share blocks. -/
def ApartO (b M g : Nat) (ks : List (Int × Ow)) (s sg : Nat) : Prop := ∀ i, BDb b M g ks i → i ≠ s ∧ i ≠ sg

theorem mod_w {P Q : Nat → Prop} {w w' : World} (h : Mod P w w') (hq : ∀ i, P i → Q i) : Mod Q w w' := h.mono fun i _ e => hq i e

set_option maxRecDepth 100000 in
set_option maxHeartbeats 4000000 in
theorem rareSetNew (peer : Int) (s sg b M g n : Nat) (most : Int) (c : Nat → Int) (ks : List (Int × Ow)) (f : Nat → Bool) (w : World) (h : BD w b M g n most c ks) (hs : BSet w s sg n f) (hT : TabW w) (hap : ApartO b M g ks s sg) (hp : 1 ≤ peer ∧ peer ≤ 65536) (hr : ∀ k, -900 ≤ c k ∧ c k ≤ 900)
    (hn : n ≤ 1024) (hlen : ks.length ≤ 1000) (hno : lkL ks peer = none) (hroom : (ks.length : Int) < most) :
    Calls Tryd.prog 19 #[.pointer (some ⟨b, 0, none⟩), .int .i64 peer, .pointer (some ⟨s, 0, none⟩)] w fun e w' => ∃ x y : Nat, e = .returned (.int .i64 0) ∧ BD w' b M g n most (cnK c f 1 n) (putL ks peer ⟨x, y, f⟩) ∧ Mod (fun i => i = M ∨ i = g) w w' ∧ w.heap.size ≤ x ∧ w.heap.size ≤ y := by
  have c2 := h.head.cell 2; have c0 := h.head.cell 0; have c1 := h.head.cell 1
  have hI : I64 peer := i64_of (by omega) (by omega)
  have hl := h.map.lookOk Tryd.underlying3 Tryd.underlying74 (zeroPtr w) hI
  rw [lk_mpO, hno] at hl
  have hz := zeroPtr
  have H := Lib.hid h
  have HIP := Lib.hid hI
  have HAP := Lib.hid hap
  have HS := Lib.hid hs
  have HT := Lib.hid hT
  have HR := Lib.hid hr
  have HLN := Lib.hid hlen
  have HN4 := Lib.hid hn
  have p1 : ¬ peer < 1 := by omega
  have p2 : ¬ 65536 < peer := by omega
  have p1' : decide (peer < 1) = false := by simpa using p1
  have p2' : decide (65536 < peer) = false := by simpa using p2
  clear h hap hs hT hr hlen hI hno
  go_enter Tryd.func19, Tryd.ntmps19
  go_upto_region 2 with fail
  clear hl
  have hnn : ((n : Int) != (n : Int)) = false := by simp
  refine wp_region2 [] [34] (by kernel_rfl) (by kernel_rfl) ?_
  repeat (first | (refine reg_anyT (by rfl) (fun K hK => ?_); go_simp; refine hK _ _ ?_; clear hK K) | (refine reg_read (by rfl) (fun K hK => ?_); go_simp; refine hK _ _ ?_; clear hK K))
  refine reg_read (by rfl) (fun K hK => ?_); go_simp
  refine ⟨_, fun rn => rd_same (bitsLen s sg n f _ (HS.out.drewN rn)), hK _ _ ?_⟩; clear hK K
  repeat (first | (refine reg_anyT (by rfl) (fun K hK => ?_); go_simp; refine hK _ _ ?_; clear hK K) | (refine reg_read (by rfl) (fun K hK => ?_); go_simp; refine hK _ _ ?_; clear hK K))
  refine reg_nil (fun nd => ?_)
  have md := (Mod.refl (fun _ => False) w).drewN nd
  have H1 := Lib.hid (H.out.new md)
  have HS1 := Lib.hid (HS.out.mod md (fun h => h) (fun h => h))
  have HT1 := Lib.hid (HT.out.mod md (fun h => h))
  have HM1 := Lib.hid (mod_w (Q := (· = g)) md (fun i h => h.elim))
  clear md c0 c1 c2
  generalize w.drewN nd = w1 at *
  have c1 := H1.out.head.cell 1; have c2 := H1.out.head.cell 2
  have hml : ∀ q, (Builtin.len_ #[74] 3 #[.map (some M)]).run Tryd.prog (w1.drewN q) = .ok (.int .i64 (ks.length : Int)) (w1.drewN q) := by
    intro q
    have := (H1.out.map.drewN q).len (T := 74) Tryd.underlying74 3
    rw [mpO_len] at this
    exact this
  have hrm : decide (most ≤ (ks.length : Int)) = false := by simp; omega
  go_upto_region 6 with fail
  go_quiet (fail)
  have md := (Mod.refl (fun _ => False) w1).drewN nq
  have HB4 := Lib.hid (H1.out.new md)
  have HS4 := Lib.hid (HS1.out.mod md (fun h => h) (fun h => h))
  have HT4 := Lib.hid (HT1.out.mod md (fun h => h))
  have HM4 := Lib.hid (HM1.out.trans (mod_w md (fun i h => h.elim)))
  have HR4 : Hid (∀ k, -1000 ≤ c k ∧ c k ≤ 1000) := fun k => by have := HR.out k; omega
  clear md c1 c2 hml hrm H1 HS1 HT1 HM1 H HS HT
  generalize w1.drewN nq = w4 at *
  have c2 := HB4.out.head.cell 2; have c3 := HB4.out.head.cell 3
  go_upto_region 8 with fail
  refine wp_region2 [(3, 3), (6, 4), (7, 2)] [] (by kernel_rfl) (by kernel_rfl) ?_
  repeat (first | (refine reg_anyT (by rfl) (fun K hK => ?_); go_simp; refine hK _ _ ?_; clear hK K) | (refine reg_read (by rfl) (fun K hK => ?_); go_simp; refine hK _ _ ?_; clear hK K))
  refine reg_hold_v (by rfl) (by rfl) (.map (some M)) (fun w' hw' => q_load _ _ _ rfl rfl Tryd.isAgg74 (hw'.cell c2)) ?_
  repeat (first | (refine reg_anyT (by rfl) (fun K hK => ?_); go_simp; refine hK _ _ ?_; clear hK K) | (refine reg_read (by rfl) (fun K hK => ?_); go_simp; refine hK _ _ ?_; clear hK K))
  refine reg_new (by rfl) (fun rn K hK => ?_); go_simp
  refine (rareCopied s sg n f _ (HS4.out.drewN rn)).mono ?_; rintro e w5 ⟨x, y, rfl, h5, m5, hx5, hy5⟩
  refine hK _ _ ⟨m5.ex, ?_⟩; clear hK K
  have B5 := Lib.hid (HB4.out.new m5.undrew)
  have M5 := Lib.hid m5.undrew
  have S5 := Lib.hid h5
  have HX5 := Lib.hid (show w4.heap.size ≤ x ∧ w4.heap.size ≤ y from ⟨hx5, hy5⟩)
  clear h5 m5 hx5 hy5
  repeat (first | (refine reg_anyT (by rfl) (fun K hK => ?_); go_simp; refine hK _ _ ?_; clear hK K) | (refine reg_read (by rfl) (fun K hK => ?_); go_simp; refine hK _ _ ?_; clear hK K))
  refine reg_eff (by rfl) (fun rn K hK => ?_)
  obtain ⟨w6, hrun, him, hm6, hz6⟩ := (B5.out.drewN rn).map.put Tryd.underlying3 Tryd.underlying74 (by rw [mpO_len]; have := HLN.out; unfold maxLen; omega) HIP.out (.pointer (some ⟨x, 0, none⟩))
  go_simp
  refine hK _ _ ?_; clear hK K
  rw [show (Value.pointer (some ⟨x, 0, none⟩)) = .pointer (some ⟨(⟨x, y, f⟩ : Ow).s, 0, none⟩) from rfl, put_mpO] at him
  refine reg_nil (fun nd => ?_)
  have hne := HB4.out.ne
  have hM4 := HB4.out.lt (.inr (.inl rfl))
  have m46 : Mod (· = M) w4 (w6.drewN nd) := ((mod_w M5.out (fun i h => h.elim)).trans hm6.undrew).drewN nd
  have hcn6 := Lib.hid (HB4.out.cn.mod m46 (by omega))
  have hb6 : (w6.drewN nd).cell? ⟨b, 3, none⟩ = some (.slice (some ⟨g, 0, none⟩) n n) := m46.cell c3 (by show ¬ b = M; omega)
  have hap := HAP.out
  have hS6 := Lib.hid (HS4.out.mod m46 (fun e => (hap M (.inr (.inl rfl))).1 e.symm) (fun e => (hap M (.inr (.inl rfl))).2 e.symm))
  have hT6 := Lib.hid (HT4.out.mod m46 (by have := HB4.out.tab M (.inr (.inl rfl)); omega))
  have him6 := Lib.hid (him.drewN nd)
  have hx6 := Lib.hid (S5.out.mod (hm6.undrew.drewN nd) (by have := HX5.out; omega) (by have := HX5.out; omega))
  have HC := Lib.hid (rareCount b g n s sg 1 c f (w6.drewN nd) hb6 hcn6.out hS6.out hT6.out (by decide) HR4.out HN4.out ⟨by omega, (hap g (.inr (.inr (.inl rfl)))).1, (hap g (.inr (.inr (.inl rfl)))).2, by have := HB4.out.tab g (.inr (.inr (.inl rfl))); omega⟩)
  have M46 := Lib.hid m46
  clear him hm6 hz6 hrun m46 hne hM4 c2 c3 hb6 hap
  generalize w6.drewN nd = w6' at *
  go_wp2_with fail
  refine HC.out.mono ?_; rintro e w7 ⟨rfl, hc7, m7⟩
  have hg4 := HB4.out.lt (.inr (.inr (.inl rfl)))
  have hne := HB4.out.ne
  have m47 : Mod (fun i => i = M ∨ i = g) w4 w7 := (mod_w M46.out (fun i e => .inl e)).trans (mod_w m7 (fun i e => .inr e))
  have B7 := Lib.hid (HB4.out.put (peer := peer) m47 (him6.out.mod m7 (by omega)) hc7 (hx6.out.mod m7 (by have := HX5.out; omega) (by have := HX5.out; omega)) HX5.out.1 HX5.out.2)
  have M7 := Lib.hid ((mod_w HM4.out (fun i e => .inr e)).trans m47)
  clear hc7 m7 hg4 hne m47
  go_wp2_with fail
  go_ret
  exact ⟨x, y, rfl, B7.out, M7.out, by have := HX5.out; have := HM4.out.size; omega, by have := HX5.out; have := HM4.out.size; omega⟩
end Go.Proofs.YtjmfhcliggjdgaaDoor

/- Package rarest: Count, Of, Pick; no condition but the table. -/
namespace Go.Proofs.YtjmfhcliggjdgaaDoor
open Go Go.RowKit

theorem owns_new {w w' : World} {base : Nat} {e : TypeId} {size : Nat} {v : Value} {n : Nat} {xs : List Value} (h : w.ownsRow base e size v n xs) (hm : Mod (fun _ => False) w w') : w'.ownsRow base e size v n xs := owns_modG h hm fun _ _ h => h
/-- What Count tells. -/
def cntR (c : Nat → Int) (n : Nat) (k : Int) : Int := if 0 ≤ k ∧ k < n then c k.toNat else 0


/-- The rarest so far. -/
def pickS (c : Nat → Int) (l : List Nat) (i : Nat) : List Nat :=
  match l with
  | [] => [i]
  | h :: t => if c i < c h then [i] else if c i = c h then (h :: t) ++ [i] else h :: t
def pickL (c : Nat → Int) (F : Nat → Bool) : Nat → List Nat
  | 0 => []
  | k + 1 => if F k = true then pickS c (pickL c F k) k else pickL c F k
theorem pickL_skip {c : Nat → Int} {F : Nat → Bool} {k : Nat} : ∀ {m : Nat}, (∀ j, k ≤ j → j < k + m → F j ≠ true) → pickL c F (k + m) = pickL c F k
  | 0, _ => rfl
  | m + 1, h => by
    show (if F (k + m) = true then _ else pickL c F (k + m)) = _
    rw [if_neg (h (k + m) (by omega) (by omega)), pickL_skip fun j h1 h2 => h j h1 (by omega)]
theorem pickL_to {c : Nat → Int} {F : Nat → Bool} {k i : Nat} (hk : k ≤ i) (h : ∀ j, k ≤ j → j < i → F j ≠ true) : pickL c F i = pickL c F k := by
  obtain ⟨m, rfl⟩ : ∃ m, i = k + m := ⟨i - k, by omega⟩
  exact pickL_skip h
theorem pickL_lt (c : Nat → Int) (F : Nat → Bool) : ∀ k x, x ∈ pickL c F k → x < k
  | 0, x, h => by simp [pickL] at h
  | k + 1, x, h => by
    unfold pickL at h
    have ih := pickL_lt c F k
    split at h
    · unfold pickS at h
      split at h
      · simp at h; omega
      · rename_i y t e
        rw [e] at ih
        split at h
        · simp at h; omega
        · split at h
          · rcases List.mem_append.1 h with h | h
            · have := ih x h; omega
            · simp at h; omega
          · have := ih x h; omega
    · have := ih x h; omega
theorem pickL_len (c : Nat → Int) (F : Nat → Bool) : ∀ k, (pickL c F k).length ≤ k
  | 0 => Nat.le_refl _
  | k + 1 => by
    have ih := pickL_len c F k
    unfold pickL
    split
    · unfold pickS
      split
      · simp
      · rename_i y t e
        rw [e] at ih
        split
        · simp
        · split
          · rw [List.length_append]; simp at *; omega
          · simp at *; omega
    · omega
def pickR (c : Nat → Int) (F : Nat → Bool) (n : Nat) (seed : Int) : Int :=
  if (pickL c F n).length = 0 then -1 else (((pickL c F n).getD (blw seed (pickL c F n).length).toNat 0 : Nat) : Int)
theorem blw_at (seed : Int) {n : Nat} (h : 0 < n) : ∃ k : Nat, blw seed (n : Int) = (k : Int) ∧ k < n := by
  have h1 := blw_lt seed (n := (n : Int)) (by omega)
  have h2 := blw_nonneg seed (n : Int)
  exact ⟨(blw seed (n : Int)).toNat, by omega, by omega⟩
abbrev natL (l : List Nat) : List Value := l.map fun (x : Nat) => .int .i64 (x : Int)

set_option maxRecDepth 100000 in
set_option maxHeartbeats 4000000 in
theorem rarePick (peer seed : Int) (o : Ow) (s' sg' b M g n : Nat) (most : Int) (c : Nat → Int) (ks : List (Int × Ow)) (f' : Nat → Bool) (w : World) (h : BD w b M g n most c ks) (hs : BSet w s' sg' n f') (hT : TabW w) (hI : I64 peer) (hl : lkL ks peer = some o) (hn : n ≤ 1024) :
    Calls Tryd.prog 23 #[.pointer (some ⟨b, 0, none⟩), .int .i64 peer, .pointer (some ⟨s', 0, none⟩), .int .u64 seed] w fun e w' => e = .returned (.int .i64 (pickR c (fLess o.f f') n seed)) ∧ Mod (fun _ => False) w w' := by
  have c2 := h.head.cell 2; have c0 := h.head.cell 0
  have hlk := h.map.lookOk Tryd.underlying3 Tryd.underlying74 (zeroPtr w) hI
  rw [lk_mpO, hl] at hlk
  simp only [Option.map_some, Option.getD_some, Option.isSome_some] at hlk
  have hz := zeroPtr
  obtain ⟨F, hF⟩ : ∃ F, F = fLess o.f f' := ⟨_, rfl⟩
  rw [← hF]
  have hso := h.sets _ (lk_some_mem hl)
  have H := Lib.hid h
  have HS := Lib.hid hs
  have HO := Lib.hid hso
  have HT := Lib.hid hT
  have HFE := Lib.hid hF
  have HN := Lib.hid hn
  have hnn : ((n : Int) != (n : Int)) = false := by simp
  obtain ⟨R, hR⟩ : ∃ R, R = pickR c F n seed := ⟨_, rfl⟩
  rw [← hR]
  have HR := Lib.hid hR
  clear h hs hso hT hF hI hn hl hR
  go_enter Tryd.func23, Tryd.ntmps23
  go_upto_region 2 with fail
  clear hlk
  refine wp_region2 [] [34] (by kernel_rfl) (by kernel_rfl) ?_
  repeat (first | (refine reg_anyT (by rfl) (fun K hK => ?_); go_simp; refine hK _ _ ?_; clear hK K) | (refine reg_read (by rfl) (fun K hK => ?_); go_simp; refine hK _ _ ?_; clear hK K))
  refine reg_read (by rfl) (fun K hK => ?_); go_simp
  refine ⟨_, fun rn => rd_same (bitsLen s' sg' n f' _ (HS.out.drewN rn)), hK _ _ ?_⟩; clear hK K
  repeat (first | (refine reg_anyT (by rfl) (fun K hK => ?_); go_simp; refine hK _ _ ?_; clear hK K) | (refine reg_read (by rfl) (fun K hK => ?_); go_simp; refine hK _ _ ?_; clear hK K))
  refine reg_nil (fun nd => ?_)
  have md := (Mod.refl (fun _ => False) w).drewN nd
  have HL := Lib.hid (bitsLess o.s o.g s' sg' n o.f f' (w.drewN nd) (HO.out.drewN nd) (HS.out.drewN nd))
  rw [← HFE.out] at HL
  have H1 := Lib.hid (H.out.new md)
  have HT1 := Lib.hid (HT.out.mod md (fun h => h))
  have M1 := Lib.hid md
  clear md c0 c2
  generalize w.drewN nd = w1 at *
  go_wp2_with fail
  refine HL.out.mono ?_; rintro e w2 ⟨mb, mg, rfl, h2, m2, _, _⟩
  have HF0 := Lib.hid h2
  have H2 := Lib.hid (H1.out.new m2)
  have HT2 := Lib.hid (HT1.out.mod m2 (fun h => h))
  have M2 := Lib.hid (M1.out.trans m2)
  have HN0 := Lib.hid (bitsNext mb mg n F 0 true w2 h2 HT2.out)
  clear h2 m2 HL
  go_wp2_with fail
  refine HN0.out.mono ?_; rintro e w' ⟨rfl, rfl⟩
  have HF := HF0
  have HT5 := HT2
  have c3 := H2.out.head.cell 3
  go_wp2_with fail
  go_loopw [11, 14] (fun u v wr => ∃ k : Nat, v = .int .i64 (nx F true n k) ∧ k ≤ n ∧ Hid (wr.ownsRow w2.heap.size 3 1 u (pickL c F k).length (natL (pickL c F k))) ∧ Hid (Mod (fun _ => False) w2 wr)) (fun _ v _ => nxM n v)
  case atStart => exact ⟨0, rfl, Nat.zero_le _, World.ownsRow_nil _ _ _ _, Mod.refl _ _⟩
  case round =>
    obtain ⟨k, rfl, hk, hown, hm⟩ := hrel
    rcases nx_spec F true n k with ⟨hx, hno⟩ | ⟨i, hx, hki, hin, hfi, hno⟩
    · have hpk : pickL c F n = pickL c F k := pickL_to hk fun j h1 h2 => hno j h1 h2
      have h1 := hown.out
      rw [← hpk] at h1
      have O1 := Lib.hid h1
      have M3 := Lib.hid (M2.out.trans hm.out)
      obtain ⟨zs, hzs⟩ : ∃ zs, zs = pickL c F n := ⟨_, rfl⟩
      have hrr := HR.out
      unfold pickR at hrr
      rw [← hzs] at hrr O1 h1
      obtain ⟨m, hm'⟩ : ∃ m, m = zs.length := ⟨_, rfl⟩
      have hml : m ≤ 1024 := by have := pickL_len c F n; have := HN.out; rw [hm', hzs]; omega
      rw [← hm'] at hrr O1 h1
      obtain ⟨a, cap, rfl, hcap, he, hxb⟩ := h1.els
      have HE := Lib.hid he
      have HML := Lib.hid hm'
      rw [hx]
      clear hx hno hown h1 he hzs hm' hpk
      by_cases h0 : m = 0
      · subst h0
        rw [if_pos rfl] at hrr
        subst hrr
        go_wp2_with fail
        go_ret
        exact ⟨rfl, M3.out⟩
      · rw [if_neg h0] at hrr
        obtain ⟨j, hj, hjn⟩ := blw_at seed (n := m) (by omega)
        obtain ⟨x, hx⟩ : ∃ x, zs[j]? = some x := ⟨_, List.getElem?_eq_getElem (by have := HML.out; omega)⟩
        rw [hj, Int.toNat_natCast, List.getD_eq_getElem?_getD, hx] at hrr
        subst hrr
        have hn0 : ((m : Int) == 0) = false := by simpa using h0
        have hwn : IntKind.u64.wrap (m : Int) = (m : Int) := by unfold IntKind.wrap; simp [IntKind.bits, IntKind.signed]; omega
        have hU : U64 (m : Int) := ⟨by omega, by omega⟩
        obtain ⟨X, rfl, c0, _⟩ := HE.out j hjn
        have d0 := c0 (.int .i64 x) (by simp [hx])
        rw [Nat.mul_one] at d0
        have hkn2 : (j : Int) < m := by omega
        obtain ⟨w1', hw1'⟩ : ∃ w1', w1' = wr := ⟨_, rfl⟩
        rw [← hw1'] at d0 hxb M3 ⊢
        clear hw1' O1 HE c0 hm
        have HJ := Lib.hid hj
        have HU := Lib.hid hU
        clear hx hj hU h0
        go_wp2_with fail
        refine (drawNew seed _).mono ?_; rintro e w4 ⟨rfl, rfl⟩
        have ma := (Mod.refl (fun _ => False) w1').alloc (.cells #[.int .u64 seed] 106)
        have d1 := ma.cell d0 (fun h => h)
        have XA := Blk.new w1' #[.int .u64 seed] 106
        have HB := Lib.hid (drawBelow seed (m : Int) w1'.heap.size _ (XA.cell 0) (XA.frozen 0) HU.out)
        rw [HJ.out] at HB
        have MA := Lib.hid (M3.out.trans ma)
        have hxl := (hxb X rfl).2
        have m2 := (Mod.refl (· = w1'.heap.size) (w1'.alloc (.cells #[.int .u64 seed] 106))).setCell (p := ⟨w1'.heap.size, 0, none⟩) (.inl rfl) (.int .u64 (stp seed))
        have d2 := m2.cell d1 (by show ¬ (X.add j).block = w1'.heap.size; rw [Addr.add_block]; omega)
        have M4 := Lib.hid (MA.out.setCell (p := ⟨w1'.heap.size, 0, none⟩) (.inr (by have := M3.out.size; exact this)) (.int .u64 (stp seed)))
        clear XA ma d0 d1 m2 hxl hxb M3
        go_wp2_with fail
        refine HB.out.mono ?_; rintro e w5 ⟨rfl, hw5⟩
        rw [hw5] at d2 M4
        clear hw5 HB MA
        go_wp2_with fail
        go_ret
        exact ⟨rfl, M4.out⟩
    · have hpk : pickL c F i = pickL c F k := pickL_to hki fun j h1 h2 => hno j h1 h2
      have hp1 : pickL c F (i + 1) = pickS c (pickL c F k) i := by
        show (if F i = true then pickS c (pickL c F i) i else _) = _
        rw [if_pos hfi, hpk]
      have hlt := pickL_lt c F k
      have hln := pickL_len c F k
      have hc3 := hm.out.cell c3 (fun h => h)
      have hcn := H2.out.cn.mod hm.out (fun h => h)
      have hci := (hcn.at hin).1
      obtain ⟨ci, hcie⟩ : ∃ x, x = c i := ⟨_, rfl⟩
      rw [← hcie] at hci
      have HIN := Lib.hid (show k ≤ i ∧ i < n from ⟨hki, hin⟩)
      have hin' : (i : Int) < n := by omega
      have hn' := HN.out
      have hw2 : IntKind.i64.wrap ((i : Int) + 1) = (i : Int) + 1 := by unfold IntKind.wrap; simp [IntKind.bits, IntKind.signed]; omega
      rw [hx]
      cases hpl : pickL c F k with
      | nil =>
        rw [hpl] at hp1 hown
        have HPK := Lib.hid (show pickL c F (i + 1) = [i] from hp1)
        obtain ⟨a, cap, rfl, hcap, he, _⟩ := hown.out.els
        have OW0 := hown
        have M0 := hm
        have HCI := Lib.hid hcie
        clear hx hno hpk hp1 hlt hln hcn hcie hfi he hpl hown hm
        simp only [List.length_nil] at *
        obtain ⟨w0, hw0⟩ : ∃ w0, w0 = wr := ⟨_, rfl⟩
        rw [← hw0] at M0 OW0 hc3 hci ⊢
        clear hw0
        go_upto_region 9 with fail
        go_quiet (fail)
        have MA := Lib.hid (M0.out.drewN nq)
        have OWA := Lib.hid (owns_new OW0.out ((Mod.refl (fun _ => False) w0).drewN nq))
        clear M0 OW0 hc3 hci
        generalize w0.drewN nq = wa at *
        have hc3 := MA.out.cell c3 (fun h => h)
        have hci := ((H2.out.cn.mod MA.out (fun h => h)).at HIN.out.2).1
        rw [← HCI.out] at hci
        go_upto_region 11 with fail
        go_quiet (fail)
        have MB := Lib.hid (MA.out.drewN nq)
        have OWB := Lib.hid (owns_new OWA.out ((Mod.refl (fun _ => False) wa).drewN nq))
        clear MA OWA hc3 hci
        generalize wa.drewN nq = wb at *
        go_wp2_with (at_builtin; refine app1 (base := w2.heap.size) rfl (.tmp 97) (.tmp 99) 36 3 1 rfl Tryd.underlying36 infoInt rfl (by decide) _ _ _ _ 1 [.int .i64 (i : Int)] (by have := MB.out.size; simp; omega) (OWB.out.alloc _) rfl rfl (sl_new wb #[.int .i64 (i : Int)] 3) (by simp [Value.oneCell']) (by decide) (by omega) ?_; intro v' w' g1 g2 g3; have G1 := Lib.hid g1; have G2 := Lib.hid (((Mod.refl _ wb).alloc (.cells #[.int .i64 (i : Int)] 3)).trans g2); clear g1 g2 g3)
        have MX := Lib.hid (MB.out.new G2.out (own_ge OWB.out))
        have HN1 := Lib.hid (bitsNext mb mg n F ((i : Int) + 1) true _ (HF.out.mod MX.out (fun h => h) (fun h => h)) (HT5.out.mod MX.out (fun h => h)))
        rw [show ((i : Int) + 1).toNat = i + 1 by omega] at HN1
        refine HN1.out.mono ?_; rintro e w' ⟨rfl, rfl⟩
        go_wp2_with fail
        refine ⟨⟨i + 1, rfl, by have := HIN.out; omega, ?_, MX⟩, nxM_less HIN.out.2⟩
        show World.ownsRow _ _ _ _ _ _ _
        rw [HPK.out]
        exact G1.out
      | cons hd t =>
        rw [hpl] at hp1 hown hlt hln
        obtain ⟨m, hme⟩ : ∃ m, m = (hd :: t).length := ⟨_, rfl⟩
        rw [← hme] at hown hln
        have hm0 : 0 < m := by rw [hme]; simp
        have hm0' : (0 : Int) < (m : Int) := by omega
        have hm1 : ((m : Int) == 0) = false := by simp; omega
        obtain ⟨a, cap, rfl, hcap, he, _⟩ := hown.out.els
        have hhd : hd < n := by have := hlt hd (List.mem_cons_self ..); omega
        have hhd' : (hd : Int) < n := by omega
        obtain ⟨ch, hche⟩ : ∃ x, x = c hd := ⟨_, rfl⟩
        have hch := (hcn.at hhd).1
        rw [← hche] at hch
        obtain ⟨X, rfl, y0, _⟩ := he 0 hm0
        have z0 := y0 (.int .i64 (hd : Int)) rfl
        rw [Nat.zero_mul] at z0
        have hX : X.add 0 = X := by simp [Addr.add]
        rw [hX] at z0
        have OW0 := hown
        have M0 := hm
        have HCI := Lib.hid hcie
        have HCH := Lib.hid hche
        have HHD := Lib.hid hhd
        have HEL := Lib.hid he
        have HZ0 : Hid (∀ wx, Mod (fun _ => False) wr wx → wx.cell? X = some (.int .i64 (hd : Int))) := fun wx h => h.cell z0 (fun h => h)
        have HME := Lib.hid hme
        have hps : pickL c F (i + 1) = if ci < ch then [i] else if ci = ch then (hd :: t) ++ [i] else hd :: t := by rw [hp1, hcie, hche]; rfl
        clear hx hno hpk hp1 hlt hcn hcie hche hfi he hpl hown hm y0 hme hX
        obtain ⟨w0, hw0⟩ : ∃ w0, w0 = wr := ⟨_, rfl⟩
        rw [← hw0] at M0 OW0 hc3 hci hch z0 HZ0 ⊢
        clear hw0
        rcases Int.lt_trichotomy ci ch with g | g | g
        · have HPK := Lib.hid (show pickL c F (i + 1) = [i] by rw [hps, if_pos g])
          clear hps
          go_upto_region 9 with fail
          go_quiet (fail)
          have MA := Lib.hid (M0.out.drewN nq)
          have OWA := Lib.hid (owns_new OW0.out ((Mod.refl (fun _ => False) w0).drewN nq))
          have z1 : (w0.drewN nq).cell? X = some (.int .i64 (hd : Int)) := z0
          clear M0 OW0 hc3 hci hch z0 HZ0 HEL
          generalize w0.drewN nq = wa at *
          have hc3 := MA.out.cell c3 (fun h => h)
          have hci := ((H2.out.cn.mod MA.out (fun h => h)).at HIN.out.2).1
          rw [← HCI.out] at hci
          have hch := ((H2.out.cn.mod MA.out (fun h => h)).at HHD.out).1
          rw [← HCH.out] at hch
          go_upto_region 11 with fail
          go_quiet (fail)
          have MB := Lib.hid (MA.out.drewN nq)
          have OWB := Lib.hid (owns_new OWA.out ((Mod.refl (fun _ => False) wa).drewN nq))
          clear MA OWA hc3 hci hch z1
          generalize wa.drewN nq = wb at *
          have OWN0 : Hid (wb.ownsRow w2.heap.size 3 1 (.slice none 0 0) 0 (natL [])) := World.ownsRow_nil _ _ _ _
          clear OWB
          have OWB := OWN0
          go_wp2_with (at_builtin; refine app1 (base := w2.heap.size) rfl (.tmp 97) (.tmp 99) 36 3 1 rfl Tryd.underlying36 infoInt rfl (by decide) _ _ _ _ 1 [.int .i64 (i : Int)] (by have := MB.out.size; simp; omega) (OWB.out.alloc _) rfl rfl (sl_new wb #[.int .i64 (i : Int)] 3) (by simp [Value.oneCell']) (by decide) (by omega) ?_; intro v' w' g1 g2 g3; have G1 := Lib.hid g1; have G2 := Lib.hid (((Mod.refl _ wb).alloc (.cells #[.int .i64 (i : Int)] 3)).trans g2); clear g1 g2 g3)
          have MX := Lib.hid (MB.out.new G2.out (own_ge OWB.out))
          have HN1 := Lib.hid (bitsNext mb mg n F ((i : Int) + 1) true _ (HF.out.mod MX.out (fun h => h) (fun h => h)) (HT5.out.mod MX.out (fun h => h)))
          rw [show ((i : Int) + 1).toNat = i + 1 by omega] at HN1
          refine HN1.out.mono ?_; rintro e w' ⟨rfl, rfl⟩
          go_wp2_with fail
          refine ⟨⟨i + 1, rfl, by have := HIN.out; omega, ?_, MX⟩, nxM_less HIN.out.2⟩
          show World.ownsRow _ _ _ _ _ _ _
          rw [HPK.out]
          exact G1.out
        · have HPK := Lib.hid (show pickL c F (i + 1) = (hd :: t) ++ [i] by rw [hps, if_neg (by omega), if_pos g])
          have g1 : decide (ci < ch) = false := by simp; omega
          have g2 : (ci == ch) = true := by simpa using g
          clear hps g
          go_upto_region 9 with fail
          go_quiet (fail)
          have MA := Lib.hid (M0.out.drewN nq)
          have OWA := Lib.hid (owns_new OW0.out ((Mod.refl (fun _ => False) w0).drewN nq))
          have z1 : (w0.drewN nq).cell? X = some (.int .i64 (hd : Int)) := z0
          clear M0 OW0 hc3 hci hch z0 HZ0 HEL
          generalize w0.drewN nq = wa at *
          have hc3 := MA.out.cell c3 (fun h => h)
          have hci := ((H2.out.cn.mod MA.out (fun h => h)).at HIN.out.2).1
          rw [← HCI.out] at hci
          have hch := ((H2.out.cn.mod MA.out (fun h => h)).at HHD.out).1
          rw [← HCH.out] at hch
          go_upto_region 11 with fail
          go_quiet (fail)
          have MB := Lib.hid (MA.out.drewN nq)
          have OWB := Lib.hid (owns_new OWA.out ((Mod.refl (fun _ => False) wa).drewN nq))
          clear MA OWA hc3 hci hch z1
          generalize wa.drewN nq = wb at *
          go_wp2_with (at_builtin; refine app1 (base := w2.heap.size) rfl (.tmp 97) (.tmp 99) 36 3 1 rfl Tryd.underlying36 infoInt rfl (by decide) _ _ _ _ 1 [.int .i64 (i : Int)] (by have := MB.out.size; simp; omega) (OWB.out.alloc _) rfl rfl (sl_new wb #[.int .i64 (i : Int)] 3) (by simp [Value.oneCell']) (by decide) (by omega) ?_; intro v' w' g1 g2 g3; have G1 := Lib.hid g1; have G2 := Lib.hid (((Mod.refl _ wb).alloc (.cells #[.int .i64 (i : Int)] 3)).trans g2); clear g1 g2 g3)
          have MX := Lib.hid (MB.out.new G2.out (own_ge OWB.out))
          have HN1 := Lib.hid (bitsNext mb mg n F ((i : Int) + 1) true _ (HF.out.mod MX.out (fun h => h) (fun h => h)) (HT5.out.mod MX.out (fun h => h)))
          rw [show ((i : Int) + 1).toNat = i + 1 by omega] at HN1
          refine HN1.out.mono ?_; rintro e w' ⟨rfl, rfl⟩
          go_wp2_with fail
          refine ⟨⟨i + 1, rfl, by have := HIN.out; omega, ?_, MX⟩, nxM_less HIN.out.2⟩
          show World.ownsRow _ _ _ _ _ _ _
          rw [HPK.out]
          rw [show natL ((hd :: t) ++ [i]) = natL (hd :: t) ++ [.int .i64 (i : Int)] by simp [natL], List.length_append, ← HME.out]
          exact G1.out
        · have HPK := Lib.hid (show pickL c F (i + 1) = hd :: t by rw [hps, if_neg (by omega), if_neg (by omega)])
          have g1 : decide (ci < ch) = false := by simp; omega
          have g2 : (ci == ch) = false := by simp; omega
          clear hps g
          go_upto_region 9 with fail
          go_quiet (fail)
          have MA := Lib.hid (M0.out.drewN nq)
          have OWA := Lib.hid (owns_new OW0.out ((Mod.refl (fun _ => False) w0).drewN nq))
          have z1 : (w0.drewN nq).cell? X = some (.int .i64 (hd : Int)) := z0
          clear M0 OW0 hc3 hci hch z0 HZ0 HEL
          generalize w0.drewN nq = wa at *
          have hc3 := MA.out.cell c3 (fun h => h)
          have hci := ((H2.out.cn.mod MA.out (fun h => h)).at HIN.out.2).1
          rw [← HCI.out] at hci
          have hch := ((H2.out.cn.mod MA.out (fun h => h)).at HHD.out).1
          rw [← HCH.out] at hch
          go_upto_region 11 with fail
          go_quiet (fail)
          have MB := Lib.hid (MA.out.drewN nq)
          have OWB := Lib.hid (owns_new OWA.out ((Mod.refl (fun _ => False) wa).drewN nq))
          clear MA OWA hc3 hci hch z1
          generalize wa.drewN nq = wb at *
          go_wp2_with fail
          have MX := MB
          have HN1 := Lib.hid (bitsNext mb mg n F ((i : Int) + 1) true _ (HF.out.mod MX.out (fun h => h) (fun h => h)) (HT5.out.mod MX.out (fun h => h)))
          rw [show ((i : Int) + 1).toNat = i + 1 by omega] at HN1
          refine HN1.out.mono ?_; rintro e w' ⟨rfl, rfl⟩
          go_wp2_with fail
          refine ⟨⟨i + 1, rfl, by have := HIN.out; omega, ?_, MX⟩, nxM_less HIN.out.2⟩
          show World.ownsRow _ _ _ _ _ _ _
          rw [HPK.out]
          rw [← HME.out]
          exact OWB.out
end Go.Proofs.YtjmfhcliggjdgaaDoor

/- The laws on rarest: sets; no condition. -/
namespace Go.Proofs.YtjmfhcliggjdgaaDoor
open Go Go.RowKit

/-- The places that bytes have. -/
def F13 (n : Nat) (bs : List Nat) : Nat → Bool := fun x => decide (x < n) && decide (x / 8 < bs.length) && (bs.getD (x / 8) 0).testBit (x % 8)
def ofP (f : Nat → Bool) (k : Nat) : Nat → Bool := fun x => decide (x < k) && f x
theorem ofP_zero (f : Nat → Bool) : ofP f 0 = fun _ => false := by funext x; simp [ofP]
theorem ofP_step (f : Nat → Bool) (k : Nat) : fil (ofP f k) k (k + 1) (f k) = ofP f (k + 1) := by
  funext x
  unfold fil ofP
  by_cases h : k ≤ x ∧ x < k + 1
  · obtain rfl : x = k := by omega
    rw [if_pos h]
    simp
  · rw [if_neg h]
    by_cases h2 : x < k
    · simp [h2, show x < k + 1 by omega]
    · simp [h2, show ¬ x < k + 1 by omega]
theorem ofP_all {f : Nat → Bool} {k : Nat} (h : ∀ x, k ≤ x → f x = false) : ofP f k = f := by
  funext x
  unfold ofP
  by_cases h2 : x < k
  · simp [h2]
  · simp [h2, h x (by omega)]

/-- Two sets that were made. -/
def SetsP (n : Nat) (f : Nat → Bool) (w : World) (e : Ending) (w' : World) : Prop :=
  ∃ s sg r rg : Nat, e = .returned (.tuple #[.pointer (some ⟨s, 0, none⟩), .pointer (some ⟨r, 0, none⟩)]) ∧ BSet w' s sg n f ∧ RSet w' r rg n f ∧ Mod (fun _ => False) w w' ∧ (w.heap.size ≤ s ∧ w.heap.size ≤ sg ∧ w.heap.size ≤ r ∧ w.heap.size ≤ rg) ∧ (s < r ∧ s < rg ∧ sg < r ∧ sg < rg)
theorem and_bit8_all : ∀ z : Fin 256, ∀ r : Fin 8, decide (bits .and .u8 ((z.1 : Int) / 2 ^ r.1) 1 = 1) = z.1.testBit r.1 := by decide +kernel
theorem and_bit8 {z r : Nat} (hz : z < 256) (hr : r < 8) : decide (bits .and .u8 ((z : Int) / 2 ^ r) 1 = 1) = z.testBit r := and_bit8_all ⟨z, hz⟩ ⟨r, hr⟩
set_option maxRecDepth 100000 in
set_option maxHeartbeats 2000000 in
theorem setsOk (n : Nat) (a : Option Addr) (len cap : Nat) (bs : List Nat) (w : World) (hn : n ≤ 1100) (hs : Sl w (.slice a len cap) 1 len (byts bs)) (hb : ∀ x ∈ bs, x < 256) :
    Calls Tryd.prog 6 #[.int .i64 n, .slice a len cap] w (SetsP n (F13 n bs) w) := by
  have HS := Lib.hid hs
  have HB := Lib.hid hb
  have hlen : bs.length = len := by have := hs.len; simpa using this
  have HLN := Lib.hid hlen
  obtain ⟨f, hf⟩ : ∃ f, f = F13 n bs := ⟨_, rfl⟩
  rw [← hf]
  have HF := Lib.hid hf
  clear hs hb hlen hf
  go_enter Tryd.func6, Tryd.ntmps6
  go_wp2_with fail
  refine (bitsNew n _ (by omega)).mono ?_; rintro e w1 ⟨rfl, h1, m1⟩
  have B1 := Lib.hid h1
  have M1 := Lib.hid m1
  clear h1 m1
  go_wp2_with fail
  refine (refNew n _ (by omega)).mono ?_; rintro e w2 ⟨rfl, h2, m2⟩
  obtain ⟨s, hs⟩ : ∃ s, s = w.heap.size + 1 := ⟨_, rfl⟩
  obtain ⟨sg, hsg⟩ : ∃ s, s = w.heap.size := ⟨_, rfl⟩
  obtain ⟨r, hr⟩ : ∃ s, s = w1.heap.size + 1 := ⟨_, rfl⟩
  obtain ⟨rg, hrg⟩ : ∃ s, s = w1.heap.size := ⟨_, rfl⟩
  rw [← hs, ← hsg] at B1
  rw [← hr, ← hrg] at h2
  rw [← hs, ← hr]
  have hl1 := B1.out.lt
  have B2 := Lib.hid (B1.out.mod m2 (fun h => h) (fun h => h))
  have R2 := Lib.hid h2
  have M2 := Lib.hid (M1.out.trans m2)
  have HNE : Hid ((w.heap.size ≤ s ∧ w.heap.size ≤ sg ∧ w.heap.size ≤ r ∧ w.heap.size ≤ rg) ∧ (s < r ∧ s < rg ∧ sg < r ∧ sg < rg)) := by
    have := M1.out.size
    show (_ ∧ _ ∧ _ ∧ _) ∧ _ ∧ _ ∧ _ ∧ _
    omega
  have hn11 : ¬ (1100 : Int) < n := by omega
  clear hs hsg hr hrg hl1 h2 m2 B1 M1
  go_wp2_with fail
  go_loopw [10] (fun v wr => ∃ k : Nat, v = .int .i64 k ∧ k ≤ n ∧ Hid (BSet wr s sg n (ofP f k)) ∧ Hid (RSet wr r rg n (ofP f k)) ∧ Hid (Mod (fun _ => False) w wr)) (fun v _ => n - (intOf v).toNat)
  case atStart => exact ⟨0, rfl, Nat.zero_le _, by rw [ofP_zero]; exact B2, by rw [ofP_zero]; exact R2, M2⟩
  case round =>
    obtain ⟨k, rfl, hk, hB, hR, hm⟩ := hrel
    have hfin : (n ≤ k ∨ len ≤ k / 8) → ofP f k = f := by
      intro h
      refine ofP_all fun x hx => ?_
      rw [HF.out]
      unfold F13
      rw [HLN.out]
      rcases h with h | h
      · simp; omega
      · have : ¬ x / 8 < len := by omega
        simp [this]
    have HFIN := Lib.hid hfin
    clear hfin
    by_cases hlt : (k : Int) < n
    · by_cases hl8 : k / 8 < len
      · have hl8' : (k : Int) / 8 < len := by omega
        have hsl := (HS.out.mod hm.out (fun _ _ _ _ h => h)).byt (k / 8) hl8
        obtain ⟨x, c, hx, hc⟩ := hsl
        cases hx
        have hx256 : bs.getD (k / 8) 0 < 256 := by
          rw [List.getD_eq_getElem?_getD, List.getElem?_eq_getElem (by rw [HLN.out]; exact hl8)]
          exact HB.out _ (List.getElem_mem _)
        have hfk : f k = (bs.getD (k / 8) 0).testBit (k % 8) := by
          rw [HF.out]
          unfold F13
          rw [HLN.out]
          simp [hl8]
          omega
        obtain ⟨z, hz⟩ : ∃ z, z = bs.getD (k / 8) 0 := ⟨_, rfl⟩
        rw [← hz] at hc hx256 hfk
        obtain ⟨q, hq⟩ : ∃ q, q = k / 8 := ⟨_, rfl⟩
        obtain ⟨r8, hr8⟩ : ∃ r, r = k % 8 := ⟨_, rfl⟩
        have hb := and_bit8 hx256 (r := r8) (by omega)
        rw [← hr8] at hfk
        rw [← hfk] at hb
        have hb2 : (bits .and .u8 ((z : Int) / 2 ^ r8) 1 == 1) = f k := by rw [← hb]; rfl
        rw [← hq] at hc hl8
        have hqq : (k : Int) / 8 = q := by omega
        have htq : (k : Int).tdiv 8 = q := by rw [Int.tdiv_eq_ediv_of_nonneg (by omega)]; omega
        have htm : (k : Int).tmod 8 = r8 := by rw [Int.tmod_eq_emod_of_nonneg (by omega)]; omega
        have hem : (k : Int) % 8 = r8 := by omega
        have hwq : IntKind.i64.wrap (q : Int) = q := by unfold IntKind.wrap; simp [IntKind.bits, IntKind.signed]; omega
        have hwr : IntKind.i64.wrap (r8 : Int) = r8 := by unfold IntKind.wrap; simp [IntKind.bits, IntKind.signed]; omega
        have hwu : IntKind.u64.wrap (r8 : Int) = r8 := by unfold IntKind.wrap; simp [IntKind.bits, IntKind.signed]; omega
        have hql : (q : Int) < len := by omega
        have hsh : ∀ yk, Op.shift .shr .u8 (z : Int) yk (r8 : Int) = pure (.int .u8 ((z : Int) / 2 ^ r8)) := by
          intro yk
          have := shift_shr .u8 yk (z : Int) (r8 : Int) (by omega) (by show (r8 : Int) ≤ 8; omega)
          rw [Int.toNat_natCast] at this
          exact this
        have HP := Lib.hid (bitsPut s sg n (ofP f k) k (f k) wr hB.out (by omega))
        rw [ofP_step] at HP
        have HFK := Lib.hid hfk
        have hkn : k < n := by omega
        clear hz hfk hx256 hq hr8 hl8'
        obtain ⟨one, hone⟩ : ∃ o, o = f k := ⟨_, rfl⟩
        have HFK2 := Lib.hid hone
        rw [← hone] at HP hb hb2
        clear hone
        go_wp2_with fail
        refine HP.out.mono ?_; rintro e w3 ⟨rfl, h3, m3⟩
        have B3 := Lib.hid h3
        have R3 := Lib.hid (hR.out.mod m3 (by have := HNE.out; omega) (by have := HNE.out; omega))
        have M3 := Lib.hid (hm.out.new m3 (by intro i hi; have := HNE.out; omega))
        have HQ := Lib.hid (refPut r rg n (ofP f k) k one w3 R3.out hkn)
        rw [HFK2.out, ofP_step, ← HFK2.out] at HQ
        clear h3 m3
        go_wp2_with fail
        refine HQ.out.mono ?_; rintro e w4 ⟨rfl, h4, m4⟩
        have B4 := Lib.hid (B3.out.mod m4 (by have := HNE.out; omega) (by have := HNE.out; omega))
        have R4 := Lib.hid h4
        have M4 := Lib.hid (M3.out.new m4 (by intro i hi; have := HNE.out; omega))
        clear h4 m4
        go_wp2_with fail
        exact ⟨⟨k + 1, by go_num, by omega, B4, R4, M4⟩, by simp [intOf]; omega⟩
      · have hl8' : decide ((k : Int) / 8 < len) = false := by simp; omega
        have htq : (k : Int).tdiv 8 = (k : Int) / 8 := Int.tdiv_eq_ediv_of_nonneg (by omega)
        have hf := HFIN.out (.inr (by omega))
        rw [hf] at hB hR
        clear hf
        go_wp2_with fail
        go_ret2
        exact ⟨s, sg, r, rg, rfl, hB.out, hR.out, hm.out, HNE.out.1, HNE.out.2⟩
    · have hf := HFIN.out (.inl (by omega))
      rw [hf] at hB hR
      clear hf
      go_wp2_with fail
      go_ret2
      exact ⟨s, sg, r, rg, rfl, hB.out, hR.out, hm.out, HNE.out.1, HNE.out.2⟩
set_option maxRecDepth 100000 in
set_option maxHeartbeats 2000000 in
theorem setsNo (n : Int) (a : Option Addr) (len cap : Nat) (w : World) (hn : n < 0 ∨ 1100 < n) :
    Calls Tryd.prog 6 #[.int .i64 n, .slice a len cap] w fun e w' => e = .returned (.tuple #[.pointer none, .pointer none]) ∧ Mod (fun _ => False) w w' := by
  by_cases h : n < 0 ∨ 65536 < n
  · have HB := Lib.hid h
    clear hn h
    go_enter Tryd.func6, Tryd.ntmps6
    go_wp2_with fail
    refine (bitsNewBad n _ HB.out).mono ?_; rintro e w1 ⟨rfl, rfl⟩
    go_wp2_with fail
    refine (refNewBad n _ HB.out).mono ?_; rintro e w2 ⟨rfl, rfl⟩
    go_wp2_with fail
    go_ret2
    exact ⟨rfl, Mod.refl _ _⟩
  · obtain ⟨k, rfl⟩ : ∃ k : Nat, n = (k : Int) := ⟨n.toNat, by omega⟩
    have h11 : (1100 : Int) < k := by omega
    have hk : k ≤ 65536 := by omega
    clear hn h
    go_enter Tryd.func6, Tryd.ntmps6
    go_wp2_with fail
    refine (bitsNew k _ hk).mono ?_; rintro e w1 ⟨rfl, h1, m1⟩
    have M1 := Lib.hid m1
    clear h1 m1
    go_wp2_with fail
    refine (refNew k _ hk).mono ?_; rintro e w2 ⟨rfl, h2, m2⟩
    have M2 := Lib.hid (M1.out.trans m2)
    clear h2 m2
    go_wp2_with fail
    go_ret2
    exact ⟨rfl, M2.out⟩
end Go.Proofs.YtjmfhcliggjdgaaDoor

/- The laws on rarest: one that lives; no condition but the table. -/
namespace Go.Proofs.YtjmfhcliggjdgaaDoor
open Go Go.RowKit

theorem ApartO.fresh {w : World} {b M g n : Nat} {most : Int} {c : Nat → Int} {ks : List (Int × Ow)} (h : BD w b M g n most c ks) {s sg : Nat} (h1 : w.heap.size ≤ s) (h2 : w.heap.size ≤ sg) : ApartO b M g ks s sg := fun i hi => by have := h.lt hi; omega
theorem ApartO.put {b M g : Nat} {ks : List (Int × Ow)} {s sg : Nat} (h : ApartO b M g ks s sg) {peer : Int} {x y : Nat} {f : Nat → Bool} (hx : s < x ∧ sg < x ∧ s < y ∧ sg < y) : ApartO b M g (putL ks peer ⟨x, y, f⟩) s sg := by
  intro i hi
  rcases hi with rfl | rfl | rfl | ⟨q, hq, e⟩
  · exact h _ (.inl rfl)
  · exact h _ (.inr (.inl rfl))
  · exact h _ (.inr (.inr (.inl rfl)))
  · rcases mem_putO hq with rfl | hq
    · simp only at e
      omega
    · exact h _ (.inr (.inr (.inr ⟨q, hq, e⟩)))
theorem byt1 (w : World) (x : Nat) : Sl (w.alloc (.cells #[.int .u8 (x : Int)] 5)) (.slice (some ⟨w.heap.size, 0, none⟩) 1 1) 1 1 (byts [x]) := sl_new w #[.int .u8 (x : Int)] 5
theorem bd_low {w : World} {b M g n : Nat} {most : Int} {c : Nat → Int} {ks : List (Int × Ow)} (h : BD w b M g n most c ks) : ∀ q ∈ ks, q.2.s < w.heap.size ∧ q.2.g < w.heap.size := fun q hq => ⟨(h.sets q hq).lt.1, (h.sets q hq).lt.2⟩
theorem cnK_bd {c : Nat → Int} {f : Nat → Bool} {d : Int} {k : Nat} {B : Int} (h : ∀ j, -B ≤ c j ∧ c j ≤ B) (hd : -1 ≤ d ∧ d ≤ 1) : ∀ j, -(B + 1) ≤ cnK c f d k j ∧ cnK c f d k j ≤ B + 1 := by
  intro j
  have := h j
  unfold cnK
  split <;> omega
end Go.Proofs.YtjmfhcliggjdgaaDoor
