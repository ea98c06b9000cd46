/- Package bits: Next, Has; no condition but the library's table. -/
import Derived.Test.YtfopglaagnbacaaDoorBitsA
import Derived.Test.YtfopglaagnbacaaDoorPop
import Derived.Shelf.Spec.TrailingZeros
import Derived.Deep.QuietTactic
import Derived.BigQuiet
namespace Go.Proofs.YtfopglaagnbacaaDoor
open Go Go.RowKit Go.IntWalk

/-- The library's table, in its variable. -/
def gTab : Nat := 0
def TabW (w : World) : Prop := TabAt gTab Lib.deBruijn64tab w
theorem TabW.mod {S : Nat → Prop} {w w' : World} (h : TabW w) (hm : Mod S w w') (hS : ¬ S gTab) : TabW w' := fun j hj => hm.cell (h j hj) hS
theorem TabW.drewN {w : World} (h : TabW w) (k : Nat) : TabW (w.drewN k) := h
theorem TabW.lt {w : World} (h : TabW w) : gTab < w.heap.size := World.block_lt_of_cell? w _ (h 0 (by decide))

theorem IntKind.wrap_u64_mod (n : Int) : IntKind.u64.wrap n = n % 18446744073709551616 := IntKind.wrap_u64 n
set_option maxRecDepth 100000 in
set_option maxHeartbeats 1000000 in
theorem tz_core (x k idx : Nat) (w : World) (hx0 : ((x : Int) == 0) = false)
    (key : IntKind.u64.wrap (bits BinOp.and IntKind.u64 (x : Int) (IntKind.u64.wrap (-(x : Int))) * 285870213051353865) / 288230376151711744 = (idx : Int))
    (hi : idx < 64) (hk : k < 64) (hcell : w.cell? ⟨gTab, idx, none⟩ = some (.int .u8 k)) :
    Calls Tryd.prog 45 #[.int .u64 x] w fun e w' => e = .returned (.int .i64 k) ∧ w = w' := by
  unfold gTab at hcell
  go_enter Tryd.func45, Tryd.ntmps45
  go_wp2_with (simp only [key])
  go_ret
  exact ⟨rfl, rfl⟩
theorem tzAny (x : Nat) (hx : x < 18446744073709551616) (hx0 : x ≠ 0) (w : World) (hT : TabW w) :
    Calls Tryd.prog 45 #[.int .u64 x] w fun e w' => e = .returned (.int .i64 (Lib.ctz 64 x : Nat)) ∧ w = w' := by
  obtain ⟨hlow, hk⟩ := Lib.lowest_bit 64 x hx0 hx
  obtain ⟨hi, htab⟩ := Lib.deBruijn64_at _ hk
  have hcell := hT _ hi
  rw [htab] at hcell
  exact tz_core x _ _ w (by simp; omega) (tz64_key x _ hx hx0 hlow) hi hk hcell

/-- The lowest one of a word. -/
theorem ctz_pk (h : Nat → Bool) (h0 : pk h 64 ≠ 0) : Lib.ctz 64 (pk h 64) < 64 ∧ h (Lib.ctz 64 (pk h 64)) = true ∧ ∀ j, j < Lib.ctz 64 (pk h 64) → h j = false := by
  unfold Lib.ctz
  rw [if_neg h0]
  obtain ⟨m, hm, hlt⟩ := Lib.ctzFrom_spec 64 (pk h 64) (by omega) (pk_lt h 64)
  generalize Lib.ctzFrom 64 (pk h 64) = c at *
  have hb : ∀ i, (pk h 64).testBit i = (decide (c ≤ i) && (2 * m + 1).testBit (i - c)) := by
    intro i
    rw [hm, Nat.mul_comm, Nat.testBit_mul_two_pow]
  refine ⟨hlt, ?_, fun j hj => ?_⟩
  · have h1 := hb c
    rw [testBit_pk] at h1
    simpa [hlt, Nat.testBit_zero] using h1
  · have h1 := hb j
    rw [testBit_pk] at h1
    have h2 : ¬ c ≤ j := by omega
    have h3 : j < 64 := by omega
    simpa [h2, h3] using h1
theorem pk_zero (h : Nat → Bool) (n : Nat) (h0 : pk h n = 0) : ∀ j, j < n → h j = false := by
  intro j hj
  have := testBit_pk h n j
  rw [h0, Nat.zero_testBit] at this
  simpa [hj] using this.symm
/-- All bits turned; the low ones struck; those behind the end struck. -/
theorem xor_pk (h : Nat → Bool) : bits .xor .u64 IntKind.u64.max (pk h 64 : Int) = (pk (fun j => h j == false) 64 : Int) := by
  have h1 : (BitVec.ofInt 64 (pk h 64 : Int)).toNat = pk h 64 := by
    rw [BitVec.ofInt_natCast, BitVec.toNat_ofNat]; exact Nat.mod_eq_of_lt (pk_lt h 64)
  have h2 : (BitVec.ofInt 64 IntKind.u64.max).toNat = 18446744073709551615 := by decide
  show IntKind.u64.wrap ((BitVec.ofInt 64 IntKind.u64.max ^^^ BitVec.ofInt 64 (pk h 64 : Int)).toNat : Int) = _
  have e : (18446744073709551615 ^^^ pk h 64 : Nat) = pk (fun j => h j == false) 64 := by
    apply Nat.eq_of_testBit_eq
    intro i
    rw [Nat.testBit_xor, testBit_ones, testBit_pk, testBit_pk]
    by_cases hi : i < 64 <;> simp [hi]
  rw [BitVec.toNat_xor, h1, h2, e, IntKind.wrap_u64]
  have := pk_lt (fun j => h j == false) 64
  omega
theorem low_pk (h : Nat → Bool) (r : Nat) : IntKind.u64.wrap ((pk h 64 : Int) / 2 ^ r * 2 ^ r) = (pk (fun j => h j && decide (r ≤ j)) 64 : Int) := by
  have e : pk h 64 / 2 ^ r * 2 ^ r = pk (fun j => h j && decide (r ≤ j)) 64 := by
    apply Nat.eq_of_testBit_eq
    intro i
    rw [Nat.testBit_mul_two_pow, ← Nat.shiftRight_eq_div_pow, Nat.testBit_shiftRight, testBit_pk, testBit_pk]
    by_cases hr : r ≤ i
    · have e2 : r + (i - r) = i := by omega
      rw [e2]
      simp [hr]
    · simp [hr]
  have e2 : ((pk h 64 : Int) / 2 ^ r * 2 ^ r) = ((pk h 64 / 2 ^ r * 2 ^ r : Nat) : Int) := by simp
  rw [e2, e, IntKind.wrap_u64]
  have := pk_lt (fun j => h j && decide (r ≤ j)) 64
  omega
theorem msk_pk (h : Nat → Bool) (n k : Nat) (h1 : 64 * k < n) (h2 : n ≤ 64 * k + 64) : bits .and .u64 (pk h 64 : Int) (msk n : Int) = (pk (fun j => h j && decide (64 * k + j < n)) 64 : Int) := by
  rw [bits_and_u64_nat _ _ (pk_lt h 64) (msk_lt n)]
  congr 1
  apply Nat.eq_of_testBit_eq
  intro i
  rw [Nat.testBit_and, testBit_msk, testBit_pk, testBit_pk, Bool.and_assoc]
  by_cases hi : i < 64
  · have e : (i + (64 - n % 64) % 64 < 64) = (64 * k + i < n) := by simp; omega
    simp only [e]
  · simp [hi]

/-- The first place that is so, from one on, below n; -1: there is none. -/
def nxA (f : Nat → Bool) (one : Bool) : Nat → Nat → Int
  | 0, _ => -1
  | m + 1, k => if f k = one then k else nxA f one m (k + 1)
def nx (f : Nat → Bool) (one : Bool) (n k : Nat) : Int := nxA f one (n - k) k
theorem nxA_no (f : Nat → Bool) (one : Bool) : ∀ m k, (∀ i, k ≤ i → i < k + m → f i ≠ one) → nxA f one m k = -1
  | 0, _, _ => rfl
  | m + 1, k, h => by
    unfold nxA
    rw [if_neg (h k (by omega) (by omega))]
    exact nxA_no f one m (k + 1) (fun i h1 h2 => h i (by omega) (by omega))
theorem nxA_yes (f : Nat → Bool) (one : Bool) (i : Nat) (hi : f i = one) : ∀ m k, k ≤ i → i < k + m → (∀ j, k ≤ j → j < i → f j ≠ one) → nxA f one m k = i
  | 0, _, _, _, _ => by omega
  | m + 1, k, h1, h2, h => by
    unfold nxA
    by_cases e : k = i
    · subst e; rw [if_pos hi]
    · rw [if_neg (h k (by omega) (by omega))]
      exact nxA_yes f one i hi m (k + 1) (by omega) (by omega) (fun j h1 h2 => h j (by omega) h2)
theorem nx_no {f : Nat → Bool} {one : Bool} {n k : Nat} (h : ∀ i, k ≤ i → i < n → f i ≠ one) : nx f one n k = -1 := nxA_no f one _ _ fun i h1 h2 => h i h1 (by omega)
theorem nx_yes {f : Nat → Bool} {one : Bool} {n k i : Nat} (hi : f i = one) (h1 : k ≤ i) (h2 : i < n) (h : ∀ j, k ≤ j → j < i → f j ≠ one) : nx f one n k = i := nxA_yes f one i hi _ _ h1 (by omega) h
theorem nx_spec (f : Nat → Bool) (one : Bool) (n k : Nat) : (nx f one n k = -1 ∧ ∀ i, k ≤ i → i < n → f i ≠ one) ∨ ∃ i, nx f one n k = (i : Nat) ∧ k ≤ i ∧ i < n ∧ f i = one ∧ ∀ j, k ≤ j → j < i → f j ≠ one := by
  have key : ∀ m k, (nxA f one m k = -1 ∧ ∀ i, k ≤ i → i < k + m → f i ≠ one) ∨ ∃ i, nxA f one m k = (i : Nat) ∧ k ≤ i ∧ i < k + m ∧ f i = one ∧ ∀ j, k ≤ j → j < i → f j ≠ one := by
    intro m
    induction m with
    | zero => intro k; exact .inl ⟨rfl, fun i h1 h2 => by omega⟩
    | succ m ih =>
      intro k
      unfold nxA
      by_cases e : f k = one
      · rw [if_pos e]
        exact .inr ⟨k, rfl, Nat.le_refl _, by omega, e, fun j h1 h2 => by omega⟩
      · rw [if_neg e]
        rcases ih (k + 1) with ⟨h1, h2⟩ | ⟨i, h1, h2, h3, h4, h5⟩
        · refine .inl ⟨h1, fun i g1 g2 => ?_⟩
          by_cases g : i = k
          · subst g; exact e
          · exact h2 i (by omega) (by omega)
        · refine .inr ⟨i, h1, by omega, by omega, h4, fun j g1 g2 => ?_⟩
          by_cases g : j = k
          · subst g; exact e
          · exact h5 j (by omega) g2
  unfold nx
  rcases key (n - k) k with ⟨h1, h2⟩ | ⟨i, h1, h2, h3, h4, h5⟩
  · exact .inl ⟨h1, fun i g1 g2 => h2 i g1 (by omega)⟩
  · exact .inr ⟨i, h1, h2, by omega, h4, h5⟩

set_option maxRecDepth 100000 in
set_option maxHeartbeats 400000 in
theorem bitsNextOut (b g n : Nat) (f : Nat → Bool) (from' : Int) (one : Bool) (w : World) (h : BSet w b g n f) (hout : n ≤ from'.toNat) :
    Calls Tryd.prog 34 #[.pointer (some ⟨b, 0, none⟩), .int .i64 from', .bool one] w fun e w' => e = .returned (.int .i64 (nx f one n from'.toNat)) ∧ w = w' := by
  have d0 := h.n0
  have hmax : max from' 0 = (from'.toNat : Int) := by omega
  have hx : nx f one n from'.toNat = -1 := nx_no fun i h1 h2 => by omega
  rw [hx]
  generalize from'.toNat = fr at *
  have hout2 : (n : Int) ≤ fr := by omega
  clear h hx hout
  go_enter Tryd.func34, Tryd.ntmps34
  go_wp2_with fail
  go_ret
  exact ⟨rfl, rfl⟩

set_option maxRecDepth 100000 in
set_option maxHeartbeats 4000000 in
theorem bitsNextInTrue (b g n : Nat) (f : Nat → Bool) (from' : Int) (w : World) (h : BSet w b g n f) (hT : TabW w) (hin : from'.toNat < n) :
    Calls Tryd.prog 34 #[.pointer (some ⟨b, 0, none⟩), .int .i64 from', .bool true] w fun e w' => e = .returned (.int .i64 (nx f true n from'.toNat)) ∧ w = w' := by
  have d0 := h.n0
  have hsm := h.small
  have hmax : max from' 0 = (from'.toNat : Int) := by omega
  generalize from'.toNat = fr at *
  have HIN := Lib.hid hin
  have hin1 : decide (n ≤ fr) = false := by simpa using hin
  obtain ⟨c, d3⟩ := h.s1
  obtain ⟨m, hmm⟩ : ∃ m, m = (n + 63) / 64 := ⟨_, rfl⟩
  rw [← hmm] at d3
  have HM := Lib.hid hmm
  obtain ⟨q, hq⟩ : ∃ q : Nat, q = fr / 64 := ⟨_, rfl⟩
  obtain ⟨r, hr⟩ : ∃ r : Nat, r = fr % 64 := ⟨_, rfl⟩
  have hqq : (fr : Int) / 64 = q := by omega
  have hrr : fr % 64 = r := hr.symm
  have hr64 : r < 64 := by omega
  have HQ := Lib.hid hq
  have HR := Lib.hid hr
  have H := Lib.hid h
  have hqm : q < m := by omega
  have hm9 : m ≤ 1024 := by omega
  have hm1 : (1 : Int) ≤ m := by omega
  clear hmm hq hr h hsm hin
  go_enter Tryd.func34, Tryd.ntmps34
  go_wp2_with fail
  go_loopw [7] (fun i wr => ∃ k : Nat, k ≤ m ∧ i = .int .i64 k ∧ q ≤ k ∧ Hid (∀ i, fr ≤ i → i < 64 * k → i < n → f i ≠ true) ∧ wr = w) (fun i _ => m - (intOf i).toNat)
  case atStart => exact ⟨q, by omega, rfl, Nat.le_refl _, fun i h1 h2 => by have := HQ.out; omega, rfl⟩
  case round =>
    obtain ⟨k, hk, rfl, hk2, hno, rfl⟩ := hrel
    by_cases hlt : k < m
    · obtain ⟨d1, _⟩ := H.out.word (k := k) (by rw [← HM.out]; exact hlt)
      have hmsk := bitsMask _ _ _ _ _ H.out.toBRaw
      have HMSK := Lib.hid hmsk
      have hpl := pk_lt
      have HPL := Lib.hid hpl
      clear hmsk hpl
      obtain ⟨A, hA⟩ : ∃ A : Nat → Bool, A = fun j => f (64 * k + j) == true := ⟨_, rfl⟩
      obtain ⟨W, hW⟩ : ∃ W, W = wd f k := ⟨_, rfl⟩
      rw [← hW] at d1
      obtain ⟨W1, hW1⟩ : ∃ W1, W1 = pk A 64 := ⟨_, rfl⟩
      have hs1 : W1 = W := by rw [hW, hW1, hA]; exact pk_ext (fun i _ => by simp)
      subst hs1
      clear hW
      have HW1 := Lib.hid hW1
      have HA := Lib.hid hA
      clear hW1 hA
      by_cases hkq : k = q
      · subst hkq
        by_cases hkl : k + 1 = m
        · have hkl2 : ((k : Int) == (m : Int) - 1) = true := by rw [beq_iff_eq]; omega
          have HKL := Lib.hid hkl; clear hkl
          obtain ⟨B, hB⟩ : ∃ B : Nat → Bool, B = fun j => A j && decide (r ≤ j) := ⟨_, rfl⟩
          obtain ⟨W2, hW2⟩ : ∃ W2, W2 = pk B 64 := ⟨_, rfl⟩
          have hsh : IntKind.u64.wrap ((W1 : Int) / 2 ^ r * 2 ^ r) = (W2 : Int) := by rw [HW1.out, hW2, hB]; exact low_pk A r
          have HW2 := Lib.hid hW2; have HB := Lib.hid hB; clear hW2 hB
          obtain ⟨D, hD⟩ : ∃ D : Nat → Bool, D = fun j => B j && decide (64 * k + j < n) := ⟨_, rfl⟩
          obtain ⟨W3, hW3⟩ : ∃ W3, W3 = pk D 64 := ⟨_, rfl⟩
          have hmk : bits .and .u64 (W2 : Int) (msk n : Int) = (W3 : Int) := by rw [HW2.out, hW3, hD]; exact msk_pk B n k (by have := HM.out; have := HKL.out; omega) (by have := HM.out; have := HKL.out; omega)
          have hDs : ∀ j, j < 64 → D j = ((f (64 * k + j) == true) && decide (fr ≤ 64 * k + j) && decide (64 * k + j < n)) := by
            intro j hj
            have h1 := HQ.out; have h2 := HR.out; have h3 := HM.out; have h4 := HKL.out
            rw [hD, HB.out, HA.out]
            have e1 : (fr ≤ 64 * k + j) = (r ≤ j) := by simp; omega
            simp only [e1]; try simp
          have HW3 := Lib.hid hW3; have HDS := Lib.hid hDs; clear hW3 hDs hD
          by_cases h0 : W3 = 0
          · have hnew : ∀ i, fr ≤ i → i < 64 * (k + 1) → i < n → f i ≠ true := by
              intro i h1 h2 h3
              by_cases h4 : i < 64 * k
              · exact hno.out i h1 h4 h3
              · have h5 := pk_zero D 64 (by rw [← HW3.out, h0]) (i - 64 * k) (by omega)
                rw [HDS.out _ (by omega), show 64 * k + (i - 64 * k) = i by omega] at h5
                simpa [h1, h3] using h5
            have HNEW := Lib.hid hnew
            subst h0
            clear hnew
            go_wp2_with fail
            refine HMSK.out.mono ?_; rintro e w' ⟨rfl, rfl⟩
            go_wp2_with fail
            go_roundw
            case rel => exact ⟨k + 1, by omega, by go_num, by omega, HNEW, by first | trivial | rfl⟩
            case measure => simp [intOf]; omega
          · obtain ⟨t1, t2, t3⟩ := ctz_pk D (by rw [← HW3.out]; exact h0)
            rw [← HW3.out] at t1 t2 t3
            rw [HDS.out _ t1] at t2
            simp only [Bool.and_eq_true, beq_iff_eq, decide_eq_true_eq] at t2
            obtain ⟨⟨t4, t5⟩, t6⟩ := t2
            have htz := tzAny W3 (by rw [HW3.out]; exact HPL.out D 64) h0 wr hT
            generalize hC : Lib.ctz 64 W3 = C at *
            have hx : nx f true n fr = (64 * k + C : Nat) := nx_yes t4 t5 t6 (fun j g1 g2 => by
              by_cases g4 : j < 64 * k
              · exact hno.out j g1 g4 (by omega)
              · have g5 := t3 (j - 64 * k) (by omega)
                rw [HDS.out _ (by omega), show 64 * k + (j - 64 * k) = j by omega] at g5
                have g6 : j < n := by omega
                simpa [g1, g6] using g5)
            have HX := Lib.hid hx
            have HTZ := Lib.hid htz
            have hne : ((W3 : Int) == 0) = false := by rw [beq_eq_false_iff_ne]; omega
            have hne2 : ((W3 : Int) != 0) = true := by rw [bne_iff_ne]; omega
            clear htz t3 t4 t5 t6 hx hC
            go_wp2_with fail
            refine HMSK.out.mono ?_; rintro e w' ⟨rfl, rfl⟩
            go_wp2_with fail
            refine HTZ.out.mono ?_; rintro e w' ⟨rfl, rfl⟩
            go_wp2_with fail
            go_ret
            exact ⟨by rw [HX.out]; exact congrArg (fun v => Ending.returned (Value.int .i64 v)) (show (k : Int) * 64 + (C : Int) = ((64 * k + C : Nat) : Int) by omega), rfl⟩
        · have hkl2 : ((k : Int) == (m : Int) - 1) = false := by rw [beq_eq_false_iff_ne]; omega
          have HKL := Lib.hid hkl; clear hkl
          obtain ⟨B, hB⟩ : ∃ B : Nat → Bool, B = fun j => A j && decide (r ≤ j) := ⟨_, rfl⟩
          obtain ⟨W2, hW2⟩ : ∃ W2, W2 = pk B 64 := ⟨_, rfl⟩
          have hsh : IntKind.u64.wrap ((W1 : Int) / 2 ^ r * 2 ^ r) = (W2 : Int) := by rw [HW1.out, hW2, hB]; exact low_pk A r
          have HW2 := Lib.hid hW2; have HB := Lib.hid hB; clear hW2 hB
          obtain ⟨D, hD⟩ : ∃ D : Nat → Bool, D = B := ⟨_, rfl⟩
          obtain ⟨W3, hW3⟩ : ∃ W3, W3 = pk D 64 := ⟨_, rfl⟩
          have h23 : W3 = W2 := by rw [hW3, hD, HW2.out]
          have hDs : ∀ j, j < 64 → D j = ((f (64 * k + j) == true) && decide (fr ≤ 64 * k + j) && decide (64 * k + j < n)) := by
            intro j hj
            have h1 := HQ.out; have h2 := HR.out; have h3 := HM.out; have h4 := HKL.out
            rw [hD, HB.out, HA.out]
            have e1 : (fr ≤ 64 * k + j) = (r ≤ j) := by simp; omega
            have e2 : (64 * k + j < n) = True := by simp; omega
            simp only [e1, e2]; try simp
          have HW3 := Lib.hid hW3; have HDS := Lib.hid hDs; clear hW3 hDs hD
          by_cases h0 : W3 = 0
          · have hnew : ∀ i, fr ≤ i → i < 64 * (k + 1) → i < n → f i ≠ true := by
              intro i h1 h2 h3
              by_cases h4 : i < 64 * k
              · exact hno.out i h1 h4 h3
              · have h5 := pk_zero D 64 (by rw [← HW3.out, h0]) (i - 64 * k) (by omega)
                rw [HDS.out _ (by omega), show 64 * k + (i - 64 * k) = i by omega] at h5
                simpa [h1, h3] using h5
            have HNEW := Lib.hid hnew
            rw [h0] at h23
            subst h0
            have h23' : W2 = 0 := h23.symm; subst h23'
            clear hnew
            go_wp2_with fail
            go_roundw
            case rel => exact ⟨k + 1, by omega, by go_num, by omega, HNEW, by first | trivial | rfl⟩
            case measure => simp [intOf]; omega
          · obtain ⟨t1, t2, t3⟩ := ctz_pk D (by rw [← HW3.out]; exact h0)
            rw [← HW3.out] at t1 t2 t3
            rw [HDS.out _ t1] at t2
            simp only [Bool.and_eq_true, beq_iff_eq, decide_eq_true_eq] at t2
            obtain ⟨⟨t4, t5⟩, t6⟩ := t2
            have htz := tzAny W3 (by rw [HW3.out]; exact HPL.out D 64) h0 wr hT
            generalize hC : Lib.ctz 64 W3 = C at *
            have hx : nx f true n fr = (64 * k + C : Nat) := nx_yes t4 t5 t6 (fun j g1 g2 => by
              by_cases g4 : j < 64 * k
              · exact hno.out j g1 g4 (by omega)
              · have g5 := t3 (j - 64 * k) (by omega)
                rw [HDS.out _ (by omega), show 64 * k + (j - 64 * k) = j by omega] at g5
                have g6 : j < n := by omega
                simpa [g1, g6] using g5)
            have HX := Lib.hid hx
            have HTZ := Lib.hid htz
            have hne : ((W3 : Int) == 0) = false := by rw [beq_eq_false_iff_ne]; omega
            have hne2 : ((W3 : Int) != 0) = true := by rw [bne_iff_ne]; omega
            clear htz t3 t4 t5 t6 hx hC
            subst h23
            go_wp2_with fail
            refine HTZ.out.mono ?_; rintro e w' ⟨rfl, rfl⟩
            go_wp2_with fail
            go_ret
            exact ⟨by rw [HX.out]; exact congrArg (fun v => Ending.returned (Value.int .i64 v)) (show (k : Int) * 64 + (C : Int) = ((64 * k + C : Nat) : Int) by omega), rfl⟩
      · have hkq2 : (k : Int) ≠ q := by omega
        have hkq3 : ((k : Int) == q) = false := by rw [beq_eq_false_iff_ne]; exact hkq2
        by_cases hkl : k + 1 = m
        · have hkl2 : ((k : Int) == (m : Int) - 1) = true := by rw [beq_iff_eq]; omega
          have HKL := Lib.hid hkl; clear hkl
          obtain ⟨B, hB⟩ : ∃ B : Nat → Bool, B = A := ⟨_, rfl⟩
          obtain ⟨W2, hW2⟩ : ∃ W2, W2 = pk B 64 := ⟨_, rfl⟩
          have h12 : W2 = W1 := by rw [hW2, hB, HW1.out]
          have HW2 := Lib.hid hW2; have HB := Lib.hid hB; clear hW2 hB
          obtain ⟨D, hD⟩ : ∃ D : Nat → Bool, D = fun j => B j && decide (64 * k + j < n) := ⟨_, rfl⟩
          obtain ⟨W3, hW3⟩ : ∃ W3, W3 = pk D 64 := ⟨_, rfl⟩
          have hmk : bits .and .u64 (W2 : Int) (msk n : Int) = (W3 : Int) := by rw [HW2.out, hW3, hD]; exact msk_pk B n k (by have := HM.out; have := HKL.out; omega) (by have := HM.out; have := HKL.out; omega)
          have hDs : ∀ j, j < 64 → D j = ((f (64 * k + j) == true) && decide (fr ≤ 64 * k + j) && decide (64 * k + j < n)) := by
            intro j hj
            have h1 := HQ.out; have h2 := HR.out; have h3 := HM.out; have h4 := HKL.out
            rw [hD, HB.out, HA.out]
            have e1 : (fr ≤ 64 * k + j) = True := by simp; omega
            simp only [e1]; try simp
          have HW3 := Lib.hid hW3; have HDS := Lib.hid hDs; clear hW3 hDs hD
          by_cases h0 : W3 = 0
          · have hnew : ∀ i, fr ≤ i → i < 64 * (k + 1) → i < n → f i ≠ true := by
              intro i h1 h2 h3
              by_cases h4 : i < 64 * k
              · exact hno.out i h1 h4 h3
              · have h5 := pk_zero D 64 (by rw [← HW3.out, h0]) (i - 64 * k) (by omega)
                rw [HDS.out _ (by omega), show 64 * k + (i - 64 * k) = i by omega] at h5
                simpa [h1, h3] using h5
            have HNEW := Lib.hid hnew
            subst h0
            subst h12
            clear hnew
            go_wp2_with fail
            refine HMSK.out.mono ?_; rintro e w' ⟨rfl, rfl⟩
            go_wp2_with fail
            go_roundw
            case rel => exact ⟨k + 1, by omega, by go_num, by omega, HNEW, by first | trivial | rfl⟩
            case measure => simp [intOf]; omega
          · obtain ⟨t1, t2, t3⟩ := ctz_pk D (by rw [← HW3.out]; exact h0)
            rw [← HW3.out] at t1 t2 t3
            rw [HDS.out _ t1] at t2
            simp only [Bool.and_eq_true, beq_iff_eq, decide_eq_true_eq] at t2
            obtain ⟨⟨t4, t5⟩, t6⟩ := t2
            have htz := tzAny W3 (by rw [HW3.out]; exact HPL.out D 64) h0 wr hT
            generalize hC : Lib.ctz 64 W3 = C at *
            have hx : nx f true n fr = (64 * k + C : Nat) := nx_yes t4 t5 t6 (fun j g1 g2 => by
              by_cases g4 : j < 64 * k
              · exact hno.out j g1 g4 (by omega)
              · have g5 := t3 (j - 64 * k) (by omega)
                rw [HDS.out _ (by omega), show 64 * k + (j - 64 * k) = j by omega] at g5
                have g6 : j < n := by omega
                simpa [g1, g6] using g5)
            have HX := Lib.hid hx
            have HTZ := Lib.hid htz
            have hne : ((W3 : Int) == 0) = false := by rw [beq_eq_false_iff_ne]; omega
            have hne2 : ((W3 : Int) != 0) = true := by rw [bne_iff_ne]; omega
            clear htz t3 t4 t5 t6 hx hC
            subst h12
            go_wp2_with fail
            refine HMSK.out.mono ?_; rintro e w' ⟨rfl, rfl⟩
            go_wp2_with fail
            refine HTZ.out.mono ?_; rintro e w' ⟨rfl, rfl⟩
            go_wp2_with fail
            go_ret
            exact ⟨by rw [HX.out]; exact congrArg (fun v => Ending.returned (Value.int .i64 v)) (show (k : Int) * 64 + (C : Int) = ((64 * k + C : Nat) : Int) by omega), rfl⟩
        · have hkl2 : ((k : Int) == (m : Int) - 1) = false := by rw [beq_eq_false_iff_ne]; omega
          have HKL := Lib.hid hkl; clear hkl
          obtain ⟨B, hB⟩ : ∃ B : Nat → Bool, B = A := ⟨_, rfl⟩
          obtain ⟨W2, hW2⟩ : ∃ W2, W2 = pk B 64 := ⟨_, rfl⟩
          have h12 : W2 = W1 := by rw [hW2, hB, HW1.out]
          have HW2 := Lib.hid hW2; have HB := Lib.hid hB; clear hW2 hB
          obtain ⟨D, hD⟩ : ∃ D : Nat → Bool, D = B := ⟨_, rfl⟩
          obtain ⟨W3, hW3⟩ : ∃ W3, W3 = pk D 64 := ⟨_, rfl⟩
          have h23 : W3 = W2 := by rw [hW3, hD, HW2.out]
          have hDs : ∀ j, j < 64 → D j = ((f (64 * k + j) == true) && decide (fr ≤ 64 * k + j) && decide (64 * k + j < n)) := by
            intro j hj
            have h1 := HQ.out; have h2 := HR.out; have h3 := HM.out; have h4 := HKL.out
            rw [hD, HB.out, HA.out]
            have e1 : (fr ≤ 64 * k + j) = True := by simp; omega
            have e2 : (64 * k + j < n) = True := by simp; omega
            simp only [e1, e2]; try simp
          have HW3 := Lib.hid hW3; have HDS := Lib.hid hDs; clear hW3 hDs hD
          by_cases h0 : W3 = 0
          · have hnew : ∀ i, fr ≤ i → i < 64 * (k + 1) → i < n → f i ≠ true := by
              intro i h1 h2 h3
              by_cases h4 : i < 64 * k
              · exact hno.out i h1 h4 h3
              · have h5 := pk_zero D 64 (by rw [← HW3.out, h0]) (i - 64 * k) (by omega)
                rw [HDS.out _ (by omega), show 64 * k + (i - 64 * k) = i by omega] at h5
                simpa [h1, h3] using h5
            have HNEW := Lib.hid hnew
            rw [h0] at h23
            subst h0
            have h23' : W2 = 0 := h23.symm; subst h23'
            subst h12
            clear hnew
            go_wp2_with fail
            go_roundw
            case rel => exact ⟨k + 1, by omega, by go_num, by omega, HNEW, by first | trivial | rfl⟩
            case measure => simp [intOf]; omega
          · obtain ⟨t1, t2, t3⟩ := ctz_pk D (by rw [← HW3.out]; exact h0)
            rw [← HW3.out] at t1 t2 t3
            rw [HDS.out _ t1] at t2
            simp only [Bool.and_eq_true, beq_iff_eq, decide_eq_true_eq] at t2
            obtain ⟨⟨t4, t5⟩, t6⟩ := t2
            have htz := tzAny W3 (by rw [HW3.out]; exact HPL.out D 64) h0 wr hT
            generalize hC : Lib.ctz 64 W3 = C at *
            have hx : nx f true n fr = (64 * k + C : Nat) := nx_yes t4 t5 t6 (fun j g1 g2 => by
              by_cases g4 : j < 64 * k
              · exact hno.out j g1 g4 (by omega)
              · have g5 := t3 (j - 64 * k) (by omega)
                rw [HDS.out _ (by omega), show 64 * k + (j - 64 * k) = j by omega] at g5
                have g6 : j < n := by omega
                simpa [g1, g6] using g5)
            have HX := Lib.hid hx
            have HTZ := Lib.hid htz
            have hne : ((W3 : Int) == 0) = false := by rw [beq_eq_false_iff_ne]; omega
            have hne2 : ((W3 : Int) != 0) = true := by rw [bne_iff_ne]; omega
            clear htz t3 t4 t5 t6 hx hC
            subst h23
            subst h12
            go_wp2_with fail
            refine HTZ.out.mono ?_; rintro e w' ⟨rfl, rfl⟩
            go_wp2_with fail
            go_ret
            exact ⟨by rw [HX.out]; exact congrArg (fun v => Ending.returned (Value.int .i64 v)) (show (k : Int) * 64 + (C : Int) = ((64 * k + C : Nat) : Int) by omega), rfl⟩
    · have hkm : k = m := by omega
      have hx : nx f true n fr = -1 := nx_no fun i h1 h2 => hno.out i h1 (by have := HM.out; omega) h2
      have HX := Lib.hid hx
      clear hx
      subst hkm
      go_wp2_with fail
      go_ret
      exact ⟨by rw [HX.out]; rfl, rfl⟩

set_option maxRecDepth 100000 in
set_option maxHeartbeats 4000000 in
theorem bitsNextInFalse (b g n : Nat) (f : Nat → Bool) (from' : Int) (w : World) (h : BSet w b g n f) (hT : TabW w) (hin : from'.toNat < n) :
    Calls Tryd.prog 34 #[.pointer (some ⟨b, 0, none⟩), .int .i64 from', .bool false] w fun e w' => e = .returned (.int .i64 (nx f false n from'.toNat)) ∧ w = w' := by
  have d0 := h.n0
  have hsm := h.small
  have hmax : max from' 0 = (from'.toNat : Int) := by omega
  generalize from'.toNat = fr at *
  have HIN := Lib.hid hin
  have hin1 : decide (n ≤ fr) = false := by simpa using hin
  obtain ⟨c, d3⟩ := h.s1
  obtain ⟨m, hmm⟩ : ∃ m, m = (n + 63) / 64 := ⟨_, rfl⟩
  rw [← hmm] at d3
  have HM := Lib.hid hmm
  obtain ⟨q, hq⟩ : ∃ q : Nat, q = fr / 64 := ⟨_, rfl⟩
  obtain ⟨r, hr⟩ : ∃ r : Nat, r = fr % 64 := ⟨_, rfl⟩
  have hqq : (fr : Int) / 64 = q := by omega
  have hrr : fr % 64 = r := hr.symm
  have hr64 : r < 64 := by omega
  have HQ := Lib.hid hq
  have HR := Lib.hid hr
  have H := Lib.hid h
  have hqm : q < m := by omega
  have hm9 : m ≤ 1024 := by omega
  have hm1 : (1 : Int) ≤ m := by omega
  clear hmm hq hr h hsm hin
  go_enter Tryd.func34, Tryd.ntmps34
  go_wp2_with fail
  go_loopw [7] (fun i wr => ∃ k : Nat, k ≤ m ∧ i = .int .i64 k ∧ q ≤ k ∧ Hid (∀ i, fr ≤ i → i < 64 * k → i < n → f i ≠ false) ∧ wr = w) (fun i _ => m - (intOf i).toNat)
  case atStart => exact ⟨q, by omega, rfl, Nat.le_refl _, fun i h1 h2 => by have := HQ.out; omega, rfl⟩
  case round =>
    obtain ⟨k, hk, rfl, hk2, hno, rfl⟩ := hrel
    by_cases hlt : k < m
    · obtain ⟨d1, _⟩ := H.out.word (k := k) (by rw [← HM.out]; exact hlt)
      have hmsk := bitsMask _ _ _ _ _ H.out.toBRaw
      have HMSK := Lib.hid hmsk
      have hpl := pk_lt
      have HPL := Lib.hid hpl
      clear hmsk hpl
      obtain ⟨A, hA⟩ : ∃ A : Nat → Bool, A = fun j => f (64 * k + j) == false := ⟨_, rfl⟩
      obtain ⟨W, hW⟩ : ∃ W, W = wd f k := ⟨_, rfl⟩
      rw [← hW] at d1
      obtain ⟨W1, hW1⟩ : ∃ W1, W1 = pk A 64 := ⟨_, rfl⟩
      have hs1 : bits .xor .u64 IntKind.u64.max (W : Int) = (W1 : Int) := by rw [hW, hW1, hA]; exact xor_pk _
      have hs2 : bits .xor .u64 (if IntKind.u64.signed = true then -1 else IntKind.u64.max) (W : Int) = (W1 : Int) := hs1
      clear hW
      have HW1 := Lib.hid hW1
      have HA := Lib.hid hA
      clear hW1 hA
      by_cases hkq : k = q
      · subst hkq
        by_cases hkl : k + 1 = m
        · have hkl2 : ((k : Int) == (m : Int) - 1) = true := by rw [beq_iff_eq]; omega
          have HKL := Lib.hid hkl; clear hkl
          obtain ⟨B, hB⟩ : ∃ B : Nat → Bool, B = fun j => A j && decide (r ≤ j) := ⟨_, rfl⟩
          obtain ⟨W2, hW2⟩ : ∃ W2, W2 = pk B 64 := ⟨_, rfl⟩
          have hsh : IntKind.u64.wrap ((W1 : Int) / 2 ^ r * 2 ^ r) = (W2 : Int) := by rw [HW1.out, hW2, hB]; exact low_pk A r
          have HW2 := Lib.hid hW2; have HB := Lib.hid hB; clear hW2 hB
          obtain ⟨D, hD⟩ : ∃ D : Nat → Bool, D = fun j => B j && decide (64 * k + j < n) := ⟨_, rfl⟩
          obtain ⟨W3, hW3⟩ : ∃ W3, W3 = pk D 64 := ⟨_, rfl⟩
          have hmk : bits .and .u64 (W2 : Int) (msk n : Int) = (W3 : Int) := by rw [HW2.out, hW3, hD]; exact msk_pk B n k (by have := HM.out; have := HKL.out; omega) (by have := HM.out; have := HKL.out; omega)
          have hDs : ∀ j, j < 64 → D j = ((f (64 * k + j) == false) && decide (fr ≤ 64 * k + j) && decide (64 * k + j < n)) := by
            intro j hj
            have h1 := HQ.out; have h2 := HR.out; have h3 := HM.out; have h4 := HKL.out
            rw [hD, HB.out, HA.out]
            have e1 : (fr ≤ 64 * k + j) = (r ≤ j) := by simp; omega
            simp only [e1]; try simp
          have HW3 := Lib.hid hW3; have HDS := Lib.hid hDs; clear hW3 hDs hD
          by_cases h0 : W3 = 0
          · have hnew : ∀ i, fr ≤ i → i < 64 * (k + 1) → i < n → f i ≠ false := by
              intro i h1 h2 h3
              by_cases h4 : i < 64 * k
              · exact hno.out i h1 h4 h3
              · have h5 := pk_zero D 64 (by rw [← HW3.out, h0]) (i - 64 * k) (by omega)
                rw [HDS.out _ (by omega), show 64 * k + (i - 64 * k) = i by omega] at h5
                simpa [h1, h3] using h5
            have HNEW := Lib.hid hnew
            subst h0
            clear hnew
            go_wp2_with fail
            refine HMSK.out.mono ?_; rintro e w' ⟨rfl, rfl⟩
            go_wp2_with fail
            go_roundw
            case rel => exact ⟨k + 1, by omega, by go_num, by omega, HNEW, by first | trivial | rfl⟩
            case measure => simp [intOf]; omega
          · obtain ⟨t1, t2, t3⟩ := ctz_pk D (by rw [← HW3.out]; exact h0)
            rw [← HW3.out] at t1 t2 t3
            rw [HDS.out _ t1] at t2
            simp only [Bool.and_eq_true, beq_iff_eq, decide_eq_true_eq] at t2
            obtain ⟨⟨t4, t5⟩, t6⟩ := t2
            have htz := tzAny W3 (by rw [HW3.out]; exact HPL.out D 64) h0 wr hT
            generalize hC : Lib.ctz 64 W3 = C at *
            have hx : nx f false n fr = (64 * k + C : Nat) := nx_yes t4 t5 t6 (fun j g1 g2 => by
              by_cases g4 : j < 64 * k
              · exact hno.out j g1 g4 (by omega)
              · have g5 := t3 (j - 64 * k) (by omega)
                rw [HDS.out _ (by omega), show 64 * k + (j - 64 * k) = j by omega] at g5
                have g6 : j < n := by omega
                simpa [g1, g6] using g5)
            have HX := Lib.hid hx
            have HTZ := Lib.hid htz
            have hne : ((W3 : Int) == 0) = false := by rw [beq_eq_false_iff_ne]; omega
            have hne2 : ((W3 : Int) != 0) = true := by rw [bne_iff_ne]; omega
            clear htz t3 t4 t5 t6 hx hC
            go_wp2_with fail
            refine HMSK.out.mono ?_; rintro e w' ⟨rfl, rfl⟩
            go_wp2_with fail
            refine HTZ.out.mono ?_; rintro e w' ⟨rfl, rfl⟩
            go_wp2_with fail
            go_ret
            exact ⟨by rw [HX.out]; exact congrArg (fun v => Ending.returned (Value.int .i64 v)) (show (k : Int) * 64 + (C : Int) = ((64 * k + C : Nat) : Int) by omega), rfl⟩
        · have hkl2 : ((k : Int) == (m : Int) - 1) = false := by rw [beq_eq_false_iff_ne]; omega
          have HKL := Lib.hid hkl; clear hkl
          obtain ⟨B, hB⟩ : ∃ B : Nat → Bool, B = fun j => A j && decide (r ≤ j) := ⟨_, rfl⟩
          obtain ⟨W2, hW2⟩ : ∃ W2, W2 = pk B 64 := ⟨_, rfl⟩
          have hsh : IntKind.u64.wrap ((W1 : Int) / 2 ^ r * 2 ^ r) = (W2 : Int) := by rw [HW1.out, hW2, hB]; exact low_pk A r
          have HW2 := Lib.hid hW2; have HB := Lib.hid hB; clear hW2 hB
          obtain ⟨D, hD⟩ : ∃ D : Nat → Bool, D = B := ⟨_, rfl⟩
          obtain ⟨W3, hW3⟩ : ∃ W3, W3 = pk D 64 := ⟨_, rfl⟩
          have h23 : W3 = W2 := by rw [hW3, hD, HW2.out]
          have hDs : ∀ j, j < 64 → D j = ((f (64 * k + j) == false) && decide (fr ≤ 64 * k + j) && decide (64 * k + j < n)) := by
            intro j hj
            have h1 := HQ.out; have h2 := HR.out; have h3 := HM.out; have h4 := HKL.out
            rw [hD, HB.out, HA.out]
            have e1 : (fr ≤ 64 * k + j) = (r ≤ j) := by simp; omega
            have e2 : (64 * k + j < n) = True := by simp; omega
            simp only [e1, e2]; try simp
          have HW3 := Lib.hid hW3; have HDS := Lib.hid hDs; clear hW3 hDs hD
          by_cases h0 : W3 = 0
          · have hnew : ∀ i, fr ≤ i → i < 64 * (k + 1) → i < n → f i ≠ false := by
              intro i h1 h2 h3
              by_cases h4 : i < 64 * k
              · exact hno.out i h1 h4 h3
              · have h5 := pk_zero D 64 (by rw [← HW3.out, h0]) (i - 64 * k) (by omega)
                rw [HDS.out _ (by omega), show 64 * k + (i - 64 * k) = i by omega] at h5
                simpa [h1, h3] using h5
            have HNEW := Lib.hid hnew
            rw [h0] at h23
            subst h0
            have h23' : W2 = 0 := h23.symm; subst h23'
            clear hnew
            go_wp2_with fail
            go_roundw
            case rel => exact ⟨k + 1, by omega, by go_num, by omega, HNEW, by first | trivial | rfl⟩
            case measure => simp [intOf]; omega
          · obtain ⟨t1, t2, t3⟩ := ctz_pk D (by rw [← HW3.out]; exact h0)
            rw [← HW3.out] at t1 t2 t3
            rw [HDS.out _ t1] at t2
            simp only [Bool.and_eq_true, beq_iff_eq, decide_eq_true_eq] at t2
            obtain ⟨⟨t4, t5⟩, t6⟩ := t2
            have htz := tzAny W3 (by rw [HW3.out]; exact HPL.out D 64) h0 wr hT
            generalize hC : Lib.ctz 64 W3 = C at *
            have hx : nx f false n fr = (64 * k + C : Nat) := nx_yes t4 t5 t6 (fun j g1 g2 => by
              by_cases g4 : j < 64 * k
              · exact hno.out j g1 g4 (by omega)
              · have g5 := t3 (j - 64 * k) (by omega)
                rw [HDS.out _ (by omega), show 64 * k + (j - 64 * k) = j by omega] at g5
                have g6 : j < n := by omega
                simpa [g1, g6] using g5)
            have HX := Lib.hid hx
            have HTZ := Lib.hid htz
            have hne : ((W3 : Int) == 0) = false := by rw [beq_eq_false_iff_ne]; omega
            have hne2 : ((W3 : Int) != 0) = true := by rw [bne_iff_ne]; omega
            clear htz t3 t4 t5 t6 hx hC
            subst h23
            go_wp2_with fail
            refine HTZ.out.mono ?_; rintro e w' ⟨rfl, rfl⟩
            go_wp2_with fail
            go_ret
            exact ⟨by rw [HX.out]; exact congrArg (fun v => Ending.returned (Value.int .i64 v)) (show (k : Int) * 64 + (C : Int) = ((64 * k + C : Nat) : Int) by omega), rfl⟩
      · have hkq2 : (k : Int) ≠ q := by omega
        have hkq3 : ((k : Int) == q) = false := by rw [beq_eq_false_iff_ne]; exact hkq2
        by_cases hkl : k + 1 = m
        · have hkl2 : ((k : Int) == (m : Int) - 1) = true := by rw [beq_iff_eq]; omega
          have HKL := Lib.hid hkl; clear hkl
          obtain ⟨B, hB⟩ : ∃ B : Nat → Bool, B = A := ⟨_, rfl⟩
          obtain ⟨W2, hW2⟩ : ∃ W2, W2 = pk B 64 := ⟨_, rfl⟩
          have h12 : W2 = W1 := by rw [hW2, hB, HW1.out]
          have HW2 := Lib.hid hW2; have HB := Lib.hid hB; clear hW2 hB
          obtain ⟨D, hD⟩ : ∃ D : Nat → Bool, D = fun j => B j && decide (64 * k + j < n) := ⟨_, rfl⟩
          obtain ⟨W3, hW3⟩ : ∃ W3, W3 = pk D 64 := ⟨_, rfl⟩
          have hmk : bits .and .u64 (W2 : Int) (msk n : Int) = (W3 : Int) := by rw [HW2.out, hW3, hD]; exact msk_pk B n k (by have := HM.out; have := HKL.out; omega) (by have := HM.out; have := HKL.out; omega)
          have hDs : ∀ j, j < 64 → D j = ((f (64 * k + j) == false) && decide (fr ≤ 64 * k + j) && decide (64 * k + j < n)) := by
            intro j hj
            have h1 := HQ.out; have h2 := HR.out; have h3 := HM.out; have h4 := HKL.out
            rw [hD, HB.out, HA.out]
            have e1 : (fr ≤ 64 * k + j) = True := by simp; omega
            simp only [e1]; try simp
          have HW3 := Lib.hid hW3; have HDS := Lib.hid hDs; clear hW3 hDs hD
          by_cases h0 : W3 = 0
          · have hnew : ∀ i, fr ≤ i → i < 64 * (k + 1) → i < n → f i ≠ false := by
              intro i h1 h2 h3
              by_cases h4 : i < 64 * k
              · exact hno.out i h1 h4 h3
              · have h5 := pk_zero D 64 (by rw [← HW3.out, h0]) (i - 64 * k) (by omega)
                rw [HDS.out _ (by omega), show 64 * k + (i - 64 * k) = i by omega] at h5
                simpa [h1, h3] using h5
            have HNEW := Lib.hid hnew
            subst h0
            subst h12
            clear hnew
            go_wp2_with fail
            refine HMSK.out.mono ?_; rintro e w' ⟨rfl, rfl⟩
            go_wp2_with fail
            go_roundw
            case rel => exact ⟨k + 1, by omega, by go_num, by omega, HNEW, by first | trivial | rfl⟩
            case measure => simp [intOf]; omega
          · obtain ⟨t1, t2, t3⟩ := ctz_pk D (by rw [← HW3.out]; exact h0)
            rw [← HW3.out] at t1 t2 t3
            rw [HDS.out _ t1] at t2
            simp only [Bool.and_eq_true, beq_iff_eq, decide_eq_true_eq] at t2
            obtain ⟨⟨t4, t5⟩, t6⟩ := t2
            have htz := tzAny W3 (by rw [HW3.out]; exact HPL.out D 64) h0 wr hT
            generalize hC : Lib.ctz 64 W3 = C at *
            have hx : nx f false n fr = (64 * k + C : Nat) := nx_yes t4 t5 t6 (fun j g1 g2 => by
              by_cases g4 : j < 64 * k
              · exact hno.out j g1 g4 (by omega)
              · have g5 := t3 (j - 64 * k) (by omega)
                rw [HDS.out _ (by omega), show 64 * k + (j - 64 * k) = j by omega] at g5
                have g6 : j < n := by omega
                simpa [g1, g6] using g5)
            have HX := Lib.hid hx
            have HTZ := Lib.hid htz
            have hne : ((W3 : Int) == 0) = false := by rw [beq_eq_false_iff_ne]; omega
            have hne2 : ((W3 : Int) != 0) = true := by rw [bne_iff_ne]; omega
            clear htz t3 t4 t5 t6 hx hC
            subst h12
            go_wp2_with fail
            refine HMSK.out.mono ?_; rintro e w' ⟨rfl, rfl⟩
            go_wp2_with fail
            refine HTZ.out.mono ?_; rintro e w' ⟨rfl, rfl⟩
            go_wp2_with fail
            go_ret
            exact ⟨by rw [HX.out]; exact congrArg (fun v => Ending.returned (Value.int .i64 v)) (show (k : Int) * 64 + (C : Int) = ((64 * k + C : Nat) : Int) by omega), rfl⟩
        · have hkl2 : ((k : Int) == (m : Int) - 1) = false := by rw [beq_eq_false_iff_ne]; omega
          have HKL := Lib.hid hkl; clear hkl
          obtain ⟨B, hB⟩ : ∃ B : Nat → Bool, B = A := ⟨_, rfl⟩
          obtain ⟨W2, hW2⟩ : ∃ W2, W2 = pk B 64 := ⟨_, rfl⟩
          have h12 : W2 = W1 := by rw [hW2, hB, HW1.out]
          have HW2 := Lib.hid hW2; have HB := Lib.hid hB; clear hW2 hB
          obtain ⟨D, hD⟩ : ∃ D : Nat → Bool, D = B := ⟨_, rfl⟩
          obtain ⟨W3, hW3⟩ : ∃ W3, W3 = pk D 64 := ⟨_, rfl⟩
          have h23 : W3 = W2 := by rw [hW3, hD, HW2.out]
          have hDs : ∀ j, j < 64 → D j = ((f (64 * k + j) == false) && decide (fr ≤ 64 * k + j) && decide (64 * k + j < n)) := by
            intro j hj
            have h1 := HQ.out; have h2 := HR.out; have h3 := HM.out; have h4 := HKL.out
            rw [hD, HB.out, HA.out]
            have e1 : (fr ≤ 64 * k + j) = True := by simp; omega
            have e2 : (64 * k + j < n) = True := by simp; omega
            simp only [e1, e2]; try simp
          have HW3 := Lib.hid hW3; have HDS := Lib.hid hDs; clear hW3 hDs hD
          by_cases h0 : W3 = 0
          · have hnew : ∀ i, fr ≤ i → i < 64 * (k + 1) → i < n → f i ≠ false := by
              intro i h1 h2 h3
              by_cases h4 : i < 64 * k
              · exact hno.out i h1 h4 h3
              · have h5 := pk_zero D 64 (by rw [← HW3.out, h0]) (i - 64 * k) (by omega)
                rw [HDS.out _ (by omega), show 64 * k + (i - 64 * k) = i by omega] at h5
                simpa [h1, h3] using h5
            have HNEW := Lib.hid hnew
            rw [h0] at h23
            subst h0
            have h23' : W2 = 0 := h23.symm; subst h23'
            subst h12
            clear hnew
            go_wp2_with fail
            go_roundw
            case rel => exact ⟨k + 1, by omega, by go_num, by omega, HNEW, by first | trivial | rfl⟩
            case measure => simp [intOf]; omega
          · obtain ⟨t1, t2, t3⟩ := ctz_pk D (by rw [← HW3.out]; exact h0)
            rw [← HW3.out] at t1 t2 t3
            rw [HDS.out _ t1] at t2
            simp only [Bool.and_eq_true, beq_iff_eq, decide_eq_true_eq] at t2
            obtain ⟨⟨t4, t5⟩, t6⟩ := t2
            have htz := tzAny W3 (by rw [HW3.out]; exact HPL.out D 64) h0 wr hT
            generalize hC : Lib.ctz 64 W3 = C at *
            have hx : nx f false n fr = (64 * k + C : Nat) := nx_yes t4 t5 t6 (fun j g1 g2 => by
              by_cases g4 : j < 64 * k
              · exact hno.out j g1 g4 (by omega)
              · have g5 := t3 (j - 64 * k) (by omega)
                rw [HDS.out _ (by omega), show 64 * k + (j - 64 * k) = j by omega] at g5
                have g6 : j < n := by omega
                simpa [g1, g6] using g5)
            have HX := Lib.hid hx
            have HTZ := Lib.hid htz
            have hne : ((W3 : Int) == 0) = false := by rw [beq_eq_false_iff_ne]; omega
            have hne2 : ((W3 : Int) != 0) = true := by rw [bne_iff_ne]; omega
            clear htz t3 t4 t5 t6 hx hC
            subst h23
            subst h12
            go_wp2_with fail
            refine HTZ.out.mono ?_; rintro e w' ⟨rfl, rfl⟩
            go_wp2_with fail
            go_ret
            exact ⟨by rw [HX.out]; exact congrArg (fun v => Ending.returned (Value.int .i64 v)) (show (k : Int) * 64 + (C : Int) = ((64 * k + C : Nat) : Int) by omega), rfl⟩
    · have hkm : k = m := by omega
      have hx : nx f false n fr = -1 := nx_no fun i h1 h2 => hno.out i h1 (by have := HM.out; omega) h2
      have HX := Lib.hid hx
      clear hx
      subst hkm
      go_wp2_with fail
      go_ret
      exact ⟨by rw [HX.out]; rfl, rfl⟩

theorem bitsNext (b g n : Nat) (f : Nat → Bool) (from' : Int) (one : Bool) (w : World) (h : BSet w b g n f) (hT : TabW w) :
    Calls Tryd.prog 34 #[.pointer (some ⟨b, 0, none⟩), .int .i64 from', .bool one] w fun e w' => e = .returned (.int .i64 (nx f one n from'.toNat)) ∧ w = w' := by
  by_cases hin : from'.toNat < n
  · cases one
    · exact bitsNextInFalse b g n f from' w h hT hin
    · exact bitsNextInTrue b g n f from' w h hT hin
  · exact bitsNextOut b g n f from' one w h (by omega)
end Go.Proofs.YtfopglaagnbacaaDoor
