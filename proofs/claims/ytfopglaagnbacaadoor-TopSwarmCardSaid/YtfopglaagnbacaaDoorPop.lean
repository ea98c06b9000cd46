/- How many ones a word has, and how math/bits counts them; no condition. -/
import Derived.Test.YtfopglaagnbacaaDoorBitsM
namespace Go.Proofs.YtfopglaagnbacaaDoor
open Go Go.RowKit

/-- How many of the first n places are ones. -/
def cnt (f : Nat → Bool) : Nat → Nat
  | 0 => 0
  | n + 1 => cnt f n + if f n then 1 else 0
theorem cnt_ext {f g : Nat → Bool} : ∀ {n : Nat}, (∀ i, i < n → f i = g i) → cnt f n = cnt g n
  | 0, _ => rfl
  | n + 1, h => by
    unfold cnt
    rw [cnt_ext (fun i hi => h i (by omega)), h n (by omega)]
theorem cnt_add (f : Nat → Bool) (m : Nat) : ∀ n, cnt f (m + n) = cnt f m + cnt (fun i => f (m + i)) n
  | 0 => rfl
  | n + 1 => by
    show cnt f (m + n) + _ = _
    rw [cnt_add f m n]
    show cnt f m + cnt (fun i => f (m + i)) n + (if f (m + n) then 1 else 0) = cnt f m + (cnt (fun i => f (m + i)) n + (if f (m + n) then 1 else 0))
    omega
theorem cnt_le (f : Nat → Bool) : ∀ n, cnt f n ≤ n
  | 0 => Nat.le_refl _
  | n + 1 => by
    unfold cnt
    have := cnt_le f n
    split <;> omega
theorem cnt_false : ∀ n, cnt (fun _ => false) n = 0
  | 0 => rfl
  | n + 1 => by unfold cnt; rw [cnt_false n]; rfl
/-- Behind the last one nothing is counted. -/
theorem cnt_out {f : Nat → Bool} {n : Nat} (h : ∀ i, n ≤ i → f i = false) : ∀ m, n ≤ m → cnt f m = cnt f n
  | 0, hm => by have : n = 0 := by omega
                rw [this]
  | m + 1, hm => by
    by_cases e : n = m + 1
    · rw [e]
    · show cnt f m + (if f m then 1 else 0) = _
      rw [cnt_out h m (by omega), h m (by omega)]
      simp

/-- A number of digits to the base 256. -/
def vB : List Nat → Nat
  | [] => 0
  | b :: t => b + 256 * vB t
/-- One byte, so many times. -/
def rB (m : Nat) : Nat → Nat
  | 0 => 0
  | n + 1 => m + 256 * rB m n
theorem and_digit {b m : Nat} (q r : Nat) (hb : b < 256) (hm : m < 256) : (b + 256 * q) &&& (m + 256 * r) = (b &&& m) + 256 * (q &&& r) := by
  apply Nat.eq_of_testBit_eq
  intro i
  have hbm : b &&& m < 2 ^ 8 := Nat.and_lt_two_pow _ (by omega)
  rw [Nat.testBit_and, Nat.add_comm b, Nat.add_comm m, Nat.add_comm (b &&& m), show (256 : Nat) = 2 ^ 8 from rfl,
    Nat.testBit_two_pow_mul_add _ (by omega), Nat.testBit_two_pow_mul_add _ (by omega), Nat.testBit_two_pow_mul_add _ hbm]
  split <;> rw [Nat.testBit_and]
theorem and_v (m : Nat) (hm : m < 256) : ∀ l : List Nat, (∀ b ∈ l, b < 256) → vB l &&& rB m l.length = vB (l.map (· &&& m))
  | [], _ => by simp [vB]
  | b :: t, h => by
    show (b + 256 * vB t) &&& (m + 256 * rB m t.length) = _
    rw [and_digit _ _ (h b (by simp)) hm, and_v m hm t (fun x hx => h x (by simp [hx]))]
    rfl
/-- A shift by less than a byte, masked. -/
theorem shr_digit {b m : Nat} (s q r : Nat) (hs : s ≤ 8) (hb : b < 256) (hm : m < 2 ^ (8 - s)) : ((b + 256 * q) / 2 ^ s) &&& (m + 256 * r) = (b / 2 ^ s &&& m) + 256 * (q / 2 ^ s &&& r) := by
  have hm8 : m < 2 ^ 8 := Nat.lt_of_lt_of_le hm (Nat.pow_le_pow_right (by omega) (by omega))
  apply Nat.eq_of_testBit_eq
  intro i
  have hbm : b / 2 ^ s &&& m < 2 ^ 8 := Nat.and_lt_two_pow _ hm8
  rw [Nat.testBit_and, Nat.add_comm b, Nat.add_comm m, Nat.add_comm (b / 2 ^ s &&& m), show (256 : Nat) = 2 ^ 8 from rfl,
    ← Nat.shiftRight_eq_div_pow, Nat.testBit_shiftRight, Nat.testBit_two_pow_mul_add _ (by omega), Nat.testBit_two_pow_mul_add _ hm8, Nat.testBit_two_pow_mul_add _ hbm]
  by_cases h8 : i < 8
  · rw [if_pos h8, if_pos h8]
    by_cases h9 : s + i < 8
    · rw [if_pos h9, Nat.testBit_and, ← Nat.shiftRight_eq_div_pow, Nat.testBit_shiftRight]
    · have : m.testBit i = false := tb_hi hm (by omega)
      rw [Nat.testBit_and, this]; simp
  · rw [if_neg h8, if_neg h8, if_neg (by omega), Nat.testBit_and, ← Nat.shiftRight_eq_div_pow, Nat.testBit_shiftRight]
    congr 2
    omega
theorem shr_v (s m : Nat) (hs : s ≤ 8) (hm : m < 2 ^ (8 - s)) : ∀ l : List Nat, (∀ b ∈ l, b < 256) → (vB l / 2 ^ s) &&& rB m l.length = vB (l.map fun b => b / 2 ^ s &&& m)
  | [], _ => by simp [vB, rB]
  | b :: t, h => by
    show ((b + 256 * vB t) / 2 ^ s) &&& (m + 256 * rB m t.length) = _
    rw [shr_digit _ _ _ hs (h b (by simp)) hm, shr_v s m hs hm t (fun x hx => h x (by simp [hx]))]
    rfl
theorem add_v (f g : Nat → Nat) : ∀ l : List Nat, vB (l.map f) + vB (l.map g) = vB (l.map fun b => f b + g b)
  | [] => rfl
  | b :: t => by
    have := add_v f g t
    simp only [List.map_cons, vB]
    omega
theorem vB_lt : ∀ l : List Nat, (∀ b ∈ l, b < 256) → vB l < 256 ^ l.length
  | [], _ => by simp [vB]
  | b :: t, h => by
    have h1 := vB_lt t (fun x hx => h x (by simp [hx]))
    have h2 := h b (by simp)
    show b + 256 * vB t < 256 ^ (t.length + 1)
    rw [Nat.pow_succ]
    omega
theorem vB_mod16 : ∀ l : List Nat, (∀ b ∈ l, b % 16 ≤ 4) → vB l % 16 ≤ 4
  | [], _ => by simp [vB]
  | b :: t, h => by
    have := h b (by simp)
    show (b + 256 * vB t) % 16 ≤ 4
    omega
theorem half_v : ∀ l : List Nat, (∀ b ∈ l, b % 16 ≤ 4 ∧ b / 16 ≤ 4) → (vB l / 16 + vB l) &&& rB 15 l.length = vB (l.map fun b => b / 16 + b % 16)
  | [], _ => by simp [vB]
  | b :: t, h => by
    have h0 := h b (by simp)
    have h1 := half_v t (fun x hx => h x (by simp [hx]))
    have h2 := vB_mod16 t (fun x hx => (h x (by simp [hx])).1)
    have e : (b + 256 * vB t) / 16 + (b + 256 * vB t) = (b / 16 + b + 16 * (vB t % 16)) + 256 * (vB t / 16 + vB t) := by omega
    show ((b + 256 * vB t) / 16 + (b + 256 * vB t)) &&& (15 + 256 * rB 15 t.length) = _
    rw [e, and_digit _ _ (by omega) (by omega), h1]
    have e2 : (b / 16 + b + 16 * (vB t % 16)) &&& 15 = b / 16 + b % 16 := by
      rw [show (15 : Nat) = 2 ^ 4 - 1 from rfl, Nat.and_two_pow_sub_one_eq_mod]
      omega
    rw [e2]
    rfl

def F1 (b : Nat) : Nat := (b / 2 &&& 85) + (b &&& 85)
def F2 (b : Nat) : Nat := (b / 4 &&& 51) + (b &&& 51)
def F3 (b : Nat) : Nat := b / 16 + b % 16
theorem F_all : ∀ b, b < 256 → F1 b < 256 ∧ F2 (F1 b) < 256 ∧ F2 (F1 b) % 16 ≤ 4 ∧ F2 (F1 b) / 16 ≤ 4 ∧ F3 (F2 (F1 b)) ≤ 8 := by decide +kernel
/-- How many ones a byte has. -/
theorem F_pop (h : Nat → Bool) : F3 (F2 (F1 (pk h 8))) = cnt h 8 := by
  have key : ∀ a0 a1 a2 a3 a4 a5 a6 a7 : Bool, F3 (F2 (F1 ((((((((0 ||| if a0 then 1 else 0) ||| if a1 then 2 else 0) ||| if a2 then 4 else 0) ||| if a3 then 8 else 0) ||| if a4 then 16 else 0) ||| if a5 then 32 else 0) ||| if a6 then 64 else 0) ||| if a7 then 128 else 0)))
      = ((((((((0 + if a0 then 1 else 0) + if a1 then 1 else 0) + if a2 then 1 else 0) + if a3 then 1 else 0) + if a4 then 1 else 0) + if a5 then 1 else 0) + if a6 then 1 else 0) + if a7 then 1 else 0) := by decide +kernel
  exact key (h 0) (h 1) (h 2) (h 3) (h 4) (h 5) (h 6) (h 7)

/-- The bytes of the first places. -/
def bl (h : Nat → Bool) : Nat → List Nat
  | 0 => []
  | m + 1 => pk h 8 :: bl (fun i => h (8 + i)) m
theorem bl_len : ∀ (m : Nat) (h : Nat → Bool), (bl h m).length = m
  | 0, _ => rfl
  | m + 1, h => by simp [bl, bl_len m]
theorem bl_lt : ∀ (m : Nat) (h : Nat → Bool), ∀ b ∈ bl h m, b < 256
  | 0, _, b, hb => by simp [bl] at hb
  | m + 1, h, b, hb => by
    rcases List.mem_cons.1 hb with rfl | hb
    · exact pk_lt h 8
    · exact bl_lt m _ b hb
theorem pk_split (h : Nat → Bool) (n : Nat) : pk h (8 + n) = pk h 8 + 256 * pk (fun i => h (8 + i)) n := by
  apply Nat.eq_of_testBit_eq
  intro i
  rw [Nat.add_comm (pk h 8), show (256 : Nat) = 2 ^ 8 from rfl, Nat.testBit_two_pow_mul_add _ (pk_lt h 8), testBit_pk, testBit_pk, testBit_pk]
  by_cases h8 : i < 8
  · have h9 : i < 8 + n := by omega
    simp [h8, h9]
  · have e : 8 + (i - 8) = i := by omega
    have e2 : (i - 8 < n) = (i < 8 + n) := by simp; omega
    simp [h8, e, e2]
theorem pk_bl : ∀ (m : Nat) (h : Nat → Bool), pk h (8 * m) = vB (bl h m)
  | 0, _ => rfl
  | m + 1, h => by
    rw [show 8 * (m + 1) = 8 + 8 * m by omega, pk_split, pk_bl m]
    rfl
def sumL : List Nat → Nat
  | [] => 0
  | b :: t => b + sumL t
theorem cnt_bl : ∀ (m : Nat) (h : Nat → Bool), sumL ((bl h m).map fun b => F3 (F2 (F1 b))) = cnt h (8 * m)
  | 0, _ => rfl
  | m + 1, h => by
    rw [show 8 * (m + 1) = 8 + 8 * m by omega, cnt_add, ← cnt_bl m, ← F_pop]
    rfl
theorem vB_d1 (a : Nat) (t : List Nat) (ha : a < 256) : vB (a :: t) / 256 = vB t := by
  show (a + 256 * vB t) / 256 = _
  omega
theorem vB_d2 (a b : Nat) (t : List Nat) (ha : a < 256) (hb : b < 256) : vB (a :: b :: t) / 65536 = vB t := by
  show (a + 256 * (b + 256 * vB t)) / 65536 = _
  omega
theorem vB_d4 (a b c d : Nat) (t : List Nat) (ha : a < 256) (hb : b < 256) (hc : c < 256) (hd : d < 256) : vB (a :: b :: c :: d :: t) / 4294967296 = vB t := by
  rw [show (4294967296 : Nat) = 65536 * 65536 from rfl, ← Nat.div_div_eq_div_mul, vB_d2 _ _ _ ha hb, vB_d2 _ _ _ hc hd]
theorem vB_b8 : ∀ l : List Nat, (∀ b ∈ l, b ≤ 127) → vB l ≤ rB 127 l.length
  | [], _ => Nat.le_refl _
  | b :: t, h => by
    have g1 := vB_b8 t (fun x hx => h x (by simp [hx]))
    have g2 := h b (by simp)
    show b + 256 * vB t ≤ 127 + 256 * rB 127 t.length
    omega
theorem vB_b8' (l : List Nat) (hl : l.length = 8) (h : ∀ b ∈ l, b ≤ 127) : vB l < 9223372036854775808 := by
  have := vB_b8 l h
  rw [hl] at this
  exact Nat.lt_of_le_of_lt this (by decide)
/-- The tail of the count: eight small bytes are summed. -/
theorem sum8 (c0 c1 c2 c3 c4 c5 c6 c7 x x4 x5 x6 : Nat) (h0 : c0 ≤ 8) (h1 : c1 ≤ 8) (h2 : c2 ≤ 8) (h3 : c3 ≤ 8) (h4 : c4 ≤ 8) (h5 : c5 ≤ 8) (h6 : c6 ≤ 8) (h7 : c7 ≤ 8)
    (hx : x = vB [c0, c1, c2, c3, c4, c5, c6, c7]) (e4 : x4 = x + x / 256) (e5 : x5 = x4 + x4 / 65536) (e6 : x6 = x5 + x5 / 4294967296) :
    x6 < 9223372036854775808 ∧ x5 < 9223372036854775808 ∧ x4 < 9223372036854775808 ∧ x6 % 128 = c0 + (c1 + (c2 + (c3 + (c4 + (c5 + (c6 + c7)))))) := by
  have q4 : x4 = vB [c0 + c1, c1 + c2, c2 + c3, c3 + c4, c4 + c5, c5 + c6, c6 + c7, c7] := by
    rw [e4, hx, vB_d1 _ _ (by omega)]
    simp only [vB]; omega
  have q5 : x5 = vB [c0 + c1 + (c2 + c3), c1 + c2 + (c3 + c4), c2 + c3 + (c4 + c5), c3 + c4 + (c5 + c6), c4 + c5 + (c6 + c7), c5 + c6 + c7, c6 + c7, c7] := by
    rw [e5, q4, vB_d2 _ _ _ (by omega) (by omega)]
    simp only [vB]; omega
  have q6 : x6 = vB [c0 + c1 + (c2 + c3) + (c4 + c5 + (c6 + c7)), c1 + c2 + (c3 + c4) + (c5 + c6 + c7), c2 + c3 + (c4 + c5) + (c6 + c7), c3 + c4 + (c5 + c6) + c7, c4 + c5 + (c6 + c7), c5 + c6 + c7, c6 + c7, c7] := by
    rw [e6, q5, vB_d4 _ _ _ _ _ (by omega) (by omega) (by omega) (by omega)]
    simp only [vB]; omega
  clear e4 e5 e6 hx
  refine ⟨?_, ?_, ?_, ?_⟩
  · rw [q6]; refine vB_b8' _ rfl ?_; simp only [List.mem_cons, List.not_mem_nil, or_false]; rintro b (h | h | h | h | h | h | h | h) <;> omega
  · rw [q5]; refine vB_b8' _ rfl ?_; simp only [List.mem_cons, List.not_mem_nil, or_false]; rintro b (h | h | h | h | h | h | h | h) <;> omega
  · rw [q4]; refine vB_b8' _ rfl ?_; simp only [List.mem_cons, List.not_mem_nil, or_false]; rintro b (h | h | h | h | h | h | h | h) <;> omega
  · rw [q6]
    have : ∀ (a : Nat) (t : List Nat), a < 128 → vB (a :: t) % 128 = a := by
      intro a t ha
      show (a + 256 * vB t) % 128 = a
      omega
    rw [this _ _ (by omega)]
    omega

theorem and127 (a : Nat) (ha : a < 9223372036854775808) : bits .and .i64 (a : Int) 127 = ((a % 128 : Nat) : Int) := by
  have h1 : (BitVec.ofInt 64 (a : Int)).toNat = a := by
    rw [BitVec.ofInt_natCast, BitVec.toNat_ofNat]; exact Nat.mod_eq_of_lt (by omega)
  have h2 : (BitVec.ofInt 64 127).toNat = 127 := by decide
  show IntKind.i64.wrap ((BitVec.ofInt 64 (a : Int) &&& BitVec.ofInt 64 127).toNat : Int) = _
  rw [BitVec.toNat_and, h1, h2, show (127 : Nat) = 2 ^ 7 - 1 from rfl, Nat.and_two_pow_sub_one_eq_mod, IntKind.wrap_i64]
  omega
/-- WHAT math/bits COUNTS, STEP BY STEP. -/
theorem pop_steps (h : Nat → Bool) : ∃ x1 x2 x3 x4 x5 x6 : Nat,
    IntKind.u64.wrap (bits .and .u64 ((pk h 64 : Nat) / 2 : Int) 6148914691236517205 + bits .and .u64 ((pk h 64 : Nat) : Int) 6148914691236517205) = (x1 : Int) ∧
    IntKind.u64.wrap (bits .and .u64 ((x1 : Int) / 4) 3689348814741910323 + bits .and .u64 (x1 : Int) 3689348814741910323) = (x2 : Int) ∧
    bits .and .u64 (IntKind.u64.wrap ((x2 : Int) / 16 + (x2 : Int))) 1085102592571150095 = (x3 : Int) ∧
    IntKind.u64.wrap ((x3 : Int) + (x3 : Int) / 256) = (x4 : Int) ∧
    IntKind.u64.wrap ((x4 : Int) + (x4 : Int) / 65536) = (x5 : Int) ∧
    IntKind.u64.wrap ((x5 : Int) + (x5 : Int) / 4294967296) = (x6 : Int) ∧
    bits .and .i64 (IntKind.i64.wrap (x6 : Int)) 127 = ((cnt h 64 : Nat) : Int) := by
  obtain ⟨l, hl⟩ : ∃ l, l = bl h 8 := ⟨_, rfl⟩
  have hlen : l.length = 8 := by rw [hl, bl_len]
  have hlt : ∀ b ∈ l, b < 256 := by rw [hl]; exact bl_lt 8 h
  have hpk : pk h 64 = vB l := by rw [hl]; exact pk_bl 8 h
  have hcnt : sumL (l.map fun b => F3 (F2 (F1 b))) = cnt h 64 := by rw [hl]; exact cnt_bl 8 h
  have h256 : (256 : Nat) ^ 8 = 18446744073709551616 := by decide
  have hF : ∀ b ∈ l, F1 b < 256 ∧ F2 (F1 b) < 256 ∧ F2 (F1 b) % 16 ≤ 4 ∧ F2 (F1 b) / 16 ≤ 4 ∧ F3 (F2 (F1 b)) ≤ 8 := fun b hb => F_all b (hlt b hb)
  have r55 : rB 85 8 = 6148914691236517205 := by decide
  have r33 : rB 51 8 = 3689348814741910323 := by decide
  have r0f : rB 15 8 = 1085102592571150095 := by decide
  have hx0 : vB l < 18446744073709551616 := by rw [← h256, ← hlen]; exact vB_lt l hlt
  -- the first step
  have a1 : (vB l / 2) &&& 6148914691236517205 = vB (l.map fun b => b / 2 &&& 85) := by
    have := shr_v 1 85 (by decide) (by decide) l hlt
    rw [hlen, r55] at this
    exact this
  have a2 : vB l &&& 6148914691236517205 = vB (l.map fun b => b &&& 85) := by
    have := and_v 85 (by decide) l hlt
    rw [hlen, r55] at this
    exact this
  have a3 : vB (l.map fun b => b / 2 &&& 85) + vB (l.map fun b => b &&& 85) = vB (l.map F1) := add_v _ _ l
  have l1 : ∀ b ∈ l.map F1, b < 256 := by
    intro b hb
    obtain ⟨c, hc, rfl⟩ := List.mem_map.1 hb
    exact (hF c hc).1
  have hx1 : vB (l.map F1) < 18446744073709551616 := by rw [← h256, ← hlen, ← List.length_map (f := F1)]; exact vB_lt _ l1
  have b1 : (vB (l.map F1) / 4) &&& 3689348814741910323 = vB ((l.map F1).map fun b => b / 4 &&& 51) := by
    have := shr_v 2 51 (by decide) (by decide) _ l1
    rw [List.length_map, hlen, r33] at this
    exact this
  have b2 : vB (l.map F1) &&& 3689348814741910323 = vB ((l.map F1).map fun b => b &&& 51) := by
    have := and_v 51 (by decide) _ l1
    rw [List.length_map, hlen, r33] at this
    exact this
  have b3 : vB ((l.map F1).map fun b => b / 4 &&& 51) + vB ((l.map F1).map fun b => b &&& 51) = vB ((l.map F1).map F2) := add_v _ _ _
  have l2 : ∀ b ∈ (l.map F1).map F2, b < 256 := by
    intro b hb
    obtain ⟨c, hc, rfl⟩ := List.mem_map.1 hb
    obtain ⟨d, hd, rfl⟩ := List.mem_map.1 hc
    exact (hF d hd).2.1
  have l3 : ∀ b ∈ (l.map F1).map F2, b % 16 ≤ 4 ∧ b / 16 ≤ 4 := by
    intro b hb
    obtain ⟨c, hc, rfl⟩ := List.mem_map.1 hb
    obtain ⟨d, hd, rfl⟩ := List.mem_map.1 hc
    exact ⟨(hF d hd).2.2.1, (hF d hd).2.2.2.1⟩
  have hx2 : vB ((l.map F1).map F2) < 18446744073709551616 := by
    have := vB_lt _ l2
    rw [List.length_map, List.length_map, hlen, h256] at this
    exact this
  have c1 : (vB ((l.map F1).map F2) / 16 + vB ((l.map F1).map F2)) &&& 1085102592571150095 = vB (((l.map F1).map F2).map F3) := by
    have := half_v _ l3
    rw [List.length_map, List.length_map, hlen, r0f] at this
    exact this
  have hcc : sumL (((l.map F1).map F2).map F3) = cnt h 64 := by rw [← hcnt, List.map_map, List.map_map]; rfl
  have l4 : ∀ b ∈ ((l.map F1).map F2).map F3, b ≤ 8 := by
    intro b hb
    obtain ⟨c, hc, rfl⟩ := List.mem_map.1 hb
    obtain ⟨d, hd, rfl⟩ := List.mem_map.1 hc
    obtain ⟨e, he, rfl⟩ := List.mem_map.1 hd
    exact (hF e he).2.2.2.2
  have hl4 : (((l.map F1).map F2).map F3).length = 8 := by simp [hlen]
  -- a bound: the sum of the halves does not overflow
  have hh : vB ((l.map F1).map F2) / 16 + vB ((l.map F1).map F2) < 18446744073709551616 := by
    have hm : ∀ l : List Nat, (∀ b ∈ l, b / 16 ≤ 4 ∧ b % 16 ≤ 4) → vB l ≤ rB 68 l.length := by
      intro l
      induction l with
      | nil => intro _; exact Nat.le_refl _
      | cons b t ih =>
        intro hl
        have g1 := ih (fun x hx => hl x (by simp [hx]))
        have g2 := hl b (by simp)
        show b + 256 * vB t ≤ 68 + 256 * rB 68 t.length
        omega
    have g := hm _ (fun b hb => ⟨(l3 b hb).2, (l3 b hb).1⟩)
    rw [List.length_map, List.length_map, hlen] at g
    have r44 : rB 68 8 = 4919131752989213764 := by decide
    omega
  obtain ⟨c, hc⟩ : ∃ c, c = ((l.map F1).map F2).map F3 := ⟨_, rfl⟩
  rw [← hc] at c1 hcc l4 hl4
  have an : ∀ (a m : Nat), a < 18446744073709551616 → m < 18446744073709551616 → bits .and .u64 (a : Int) (m : Int) = ((a &&& m : Nat) : Int) := fun a m ha hm => bits_and_u64_nat a m ha hm
  have wr : ∀ a : Nat, a < 18446744073709551616 → IntKind.u64.wrap (a : Int) = (a : Int) := fun a ha => by rw [IntKind.wrap_u64]; omega
  obtain ⟨c0, k0, rfl⟩ : ∃ c0 k, c = c0 :: k := by cases c with | nil => simp at hl4 | cons a b => exact ⟨a, b, rfl⟩
  obtain ⟨c1', k1, rfl⟩ : ∃ c0 k, k0 = c0 :: k := by cases k0 with | nil => simp at hl4 | cons a b => exact ⟨a, b, rfl⟩
  obtain ⟨c2, k2, rfl⟩ : ∃ c0 k, k1 = c0 :: k := by cases k1 with | nil => simp at hl4 | cons a b => exact ⟨a, b, rfl⟩
  obtain ⟨c3, k3, rfl⟩ : ∃ c0 k, k2 = c0 :: k := by cases k2 with | nil => simp at hl4 | cons a b => exact ⟨a, b, rfl⟩
  obtain ⟨c4, k4, rfl⟩ : ∃ c0 k, k3 = c0 :: k := by cases k3 with | nil => simp at hl4 | cons a b => exact ⟨a, b, rfl⟩
  obtain ⟨c5, k5, rfl⟩ : ∃ c0 k, k4 = c0 :: k := by cases k4 with | nil => simp at hl4 | cons a b => exact ⟨a, b, rfl⟩
  obtain ⟨c6, k6, rfl⟩ : ∃ c0 k, k5 = c0 :: k := by cases k5 with | nil => simp at hl4 | cons a b => exact ⟨a, b, rfl⟩
  obtain ⟨c7, k7, rfl⟩ : ∃ c0 k, k6 = c0 :: k := by cases k6 with | nil => simp at hl4 | cons a b => exact ⟨a, b, rfl⟩
  obtain rfl : k7 = [] := by cases k7 with | nil => rfl | cons a b => simp at hl4
  have hl4' : ∀ b, b = c0 ∨ b = c1' ∨ b = c2 ∨ b = c3 ∨ b = c4 ∨ b = c5 ∨ b = c6 ∨ b = c7 → b ≤ 8 := fun b hb => l4 b (by simpa using hb)
  obtain ⟨x3, hx3⟩ : ∃ x3, x3 = vB [c0, c1', c2, c3, c4, c5, c6, c7] := ⟨_, rfl⟩
  obtain ⟨s6, s5, s4, s7⟩ := sum8 c0 c1' c2 c3 c4 c5 c6 c7 x3 _ _ _ (hl4' _ (by simp)) (hl4' _ (by simp)) (hl4' _ (by simp)) (hl4' _ (by simp)) (hl4' _ (by simp)) (hl4' _ (by simp)) (hl4' _ (by simp)) (hl4' _ (by simp)) hx3 rfl rfl rfl
  rw [← hx3] at c1
  refine ⟨vB (l.map F1), vB ((l.map F1).map F2), x3, x3 + x3 / 256, x3 + x3 / 256 + (x3 + x3 / 256) / 65536, x3 + x3 / 256 + (x3 + x3 / 256) / 65536 + (x3 + x3 / 256 + (x3 + x3 / 256) / 65536) / 4294967296, ?_, ?_, ?_, ?_, ?_, ?_, ?_⟩
  · rw [hpk]
    have e1 := an (vB l / 2) 6148914691236517205 (by omega) (by decide)
    have e2 := an (vB l) 6148914691236517205 hx0 (by decide)
    rw [a1] at e1
    rw [a2] at e2
    have e3 := wr _ hx1
    rw [← a3] at e3 ⊢
    rw [← e3]
    simp only [Int.natCast_add]
    rw [← e1, ← e2]
    rfl
  · have e1 := an (vB (l.map F1) / 4) 3689348814741910323 (by omega) (by decide)
    have e2 := an (vB (l.map F1)) 3689348814741910323 hx1 (by decide)
    rw [b1] at e1
    rw [b2] at e2
    have e3 := wr _ hx2
    rw [← b3] at e3 ⊢
    rw [← e3]
    simp only [Int.natCast_add]
    rw [← e1, ← e2]
    rfl
  · have e1 := an _ 1085102592571150095 hh (by decide)
    rw [c1] at e1
    have e3 := wr _ hh
    rw [← e1, ← e3]
    rfl
  · rw [← wr (x3 + x3 / 256) (by omega)]; rfl
  · rw [← wr (x3 + x3 / 256 + (x3 + x3 / 256) / 65536) (by omega)]; rfl
  · rw [← wr (x3 + x3 / 256 + (x3 + x3 / 256) / 65536 + (x3 + x3 / 256 + (x3 + x3 / 256) / 65536) / 4294967296) (by omega)]; rfl
  · have hs : cnt h 64 = c0 + (c1' + (c2 + (c3 + (c4 + (c5 + (c6 + c7)))))) := by rw [← hcc]; rfl
    rw [hs, ← s7]
    generalize x3 + x3 / 256 + (x3 + x3 / 256) / 65536 + (x3 + x3 / 256 + (x3 + x3 / 256) / 65536) / 4294967296 = x6 at s6
    rw [show IntKind.i64.wrap (x6 : Int) = (x6 : Int) by rw [IntKind.wrap_i64]; omega]
    exact and127 x6 s6
end Go.Proofs.YtfopglaagnbacaaDoor
