/- The reference of package bits: New, Bytes, Load; no condition. -/
import Derived.Test.YtegmgflplhpacaaDoorBitsS
namespace Go.Proofs.YtegmgflplhpacaaDoor
open Go Go.RowKit

/-- A set of the reference at block b, its list at block g. -/
structure RSet (w : World) (b g n : Nat) (f : Nat → Bool) : Prop where
  head : ∃ c, Blk w b #[.slice (some ⟨g, 0, none⟩) n c] 91
  ne : g ≠ b
  list : ∃ cs : Array Value, Blk w g cs 4 ∧ ∀ k, k < n → cs[k]? = some (.bool (f k))
  small : n ≤ 65536
theorem RSet.lt {w : World} {b g n : Nat} {f : Nat → Bool} (h : RSet w b g n f) : b < w.heap.size ∧ g < w.heap.size := by
  obtain ⟨c, hc⟩ := h.head
  obtain ⟨cs, hcs, _⟩ := h.list
  exact ⟨hc.lt, hcs.lt⟩
theorem RSet.mod {S : Nat → Prop} {w w' : World} {b g n : Nat} {f : Nat → Bool} (h : RSet w b g n f) (hm : Mod S w w') (hb : ¬ S b) (hg : ¬ S g) : RSet w' b g n f := by
  obtain ⟨c, hc⟩ := h.head
  obtain ⟨cs, hcs, hk⟩ := h.list
  exact ⟨⟨c, hc.mod hm hb⟩, h.ne, ⟨cs, hcs.mod hm hg, hk⟩, h.small⟩
theorem RSet.drewN {w : World} {b g n : Nat} {f : Nat → Bool} (h : RSet w b g n f) (k : Nat) : RSet (w.drewN k) b g n f := ⟨h.head, h.ne, h.list, h.small⟩
theorem RSet.put {w : World} {b g n : Nat} {f : Nat → Bool} (h : RSet w b g n f) (q : Nat) (v : Value) (f' : Nat → Bool) (hv : v = .bool (f' q)) (hne : ∀ k, k ≠ q → f' k = f k) :
    RSet (w.setCell ⟨g, q, none⟩ v) b g n f' := by
  obtain ⟨c, hc⟩ := h.head
  obtain ⟨cs, hcs, hk⟩ := h.list
  refine ⟨⟨c, hc.setOther h.ne _⟩, h.ne, ⟨_, hcs.set q v, fun k hlt => ?_⟩, h.small⟩
  have h0 := hk k hlt
  have h1 := (Array.getElem?_eq_some_iff.1 h0).1
  by_cases e : k = q
  · subst e
    rw [Array.getElem?_setIfInBounds_self_of_lt h1, hv]
  · rw [Array.getElem?_setIfInBounds_ne (Ne.symm e), h0, hne k e]
theorem RSet.s0 {w : World} {b g n : Nat} {f : Nat → Bool} (h : RSet w b g n f) : ∃ c, w.cell? ⟨b, 0, none⟩ = some (.slice (some ⟨g, 0, none⟩) n c) := by
  obtain ⟨c, hc⟩ := h.head
  exact ⟨c, by rw [hc.cell]; rfl⟩
theorem RSet.at {w : World} {b g n : Nat} {f : Nat → Bool} (h : RSet w b g n f) {k : Nat} (hk : k < n) : w.cell? ⟨g, k, none⟩ = some (.bool (f k)) ∧ w.frozen? ⟨g, k, none⟩ = false := by
  obtain ⟨cs, hcs, h1⟩ := h.list
  exact ⟨by rw [hcs.cell]; exact h1 k hk, hcs.frozen k⟩
theorem RSet.ext {w : World} {b g n : Nat} {f f' : Nat → Bool} (h : RSet w b g n f) (e : ∀ k, k < n → f' k = f k) : RSet w b g n f' := by
  obtain ⟨cs, hcs, h1⟩ := h.list
  exact ⟨h.head, h.ne, ⟨cs, hcs, fun k hk => by rw [h1 k hk, e k hk]⟩, h.small⟩

theorem infoBool : (Tryd.prog.info? 4).map (fun i => (i.zero, i.size, i.bytes)) = some (some (.bool false), 1, 1) := by kernel_rfl
set_option maxHeartbeats 400000 in
theorem refNewBad (n : Int) (w : World) (h : n < 0 ∨ 65536 < n) :
    Calls Tryd.prog 29 #[.int .i64 n] w fun e w' => e = .returned (.tuple #[.pointer none, .int .i64 1]) ∧ w = w' := by
  go_enter Tryd.func29, Tryd.ntmps29
  rcases h with h | h
  · go_wp2
    go_ret2
    exact ⟨rfl, rfl⟩
  · have h2 : ¬ n < 0 := by omega
    go_wp2
    go_ret2
    exact ⟨rfl, rfl⟩

set_option maxHeartbeats 400000 in
theorem refNew (n : Nat) (w : World) (h : n ≤ 65536) :
    Calls Tryd.prog 29 #[.int .i64 n] w fun e w' => e = .returned (.tuple #[.pointer (some ⟨w.heap.size + 1, 0, none⟩), .int .i64 0]) ∧ RSet w' (w.heap.size + 1) w.heap.size n (fun _ => false) ∧ Mod (fun _ => False) w w' := by
  obtain ⟨i0, hi, hz0, hz1, hz2⟩ := info_parts infoBool
  have hmk := run_makeSlice (P := Tryd.prog) w 87 4 i0 (.bool false) Tryd.underlying87 hi hz0 .i64 .i64 (n : Int) (n : Int) (by omega) (Int.le_refl _) (by rw [hz1]; omega) (by rw [hz2]; omega) (by omega)
  rw [hz1] at hmk
  rw [Int.toNat_natCast] at hmk
  have h1 : ¬ (n : Int) < 0 := by omega
  have h2 : ¬ (65536 : Int) < n := by omega
  clear hi hz0 hz1 hz2
  go_enter Tryd.func29, Tryd.ntmps29
  go_wp2_with fail
  go_ret2
  refine ⟨rfl, ⟨⟨_, by have := Blk.new (w.alloc (.cells (madeCells #[Value.bool false] n) 4)) #[.slice (some ⟨w.heap.size, 0, none⟩) n n] 91; simpa using this⟩, by omega, ⟨_, (Blk.new w _ _).alloc _, fun k hk => ?_⟩, h⟩, ((Mod.refl _ w).alloc _).alloc _⟩
  rw [made_get _ _ _ rfl hk]
  rfl

/-- The first i of the places. -/
def upto (f : Nat → Bool) (i : Nat) : Nat → Bool := fun x => decide (x < i) && f x
theorem byt_upto_zero (f : Nat → Bool) (k : Nat) : byt (upto f 0) k = 0 := by
  have : upto f 0 = fun _ => false := by funext x; simp [upto]
  rw [this]; exact pk_false 8
theorem byt_upto_no (f : Nat → Bool) (i k : Nat) (h : f i = false ∨ k ≠ i / 8) : byt (upto f (i + 1)) k = byt (upto f i) k := by
  apply pk_ext
  intro j hj
  show (decide (8 * k + j < i + 1) && f (8 * k + j)) = (decide (8 * k + j < i) && f (8 * k + j))
  by_cases e : 8 * k + j = i
  · rcases h with h | h
    · rw [e, h]; simp
    · omega
  · congr 1
    simp; omega
theorem byt_upto_yes (f : Nat → Bool) (i : Nat) (h : f i = true) : ((byt (upto f i) (i / 8) : Int) + 2 ^ (i % 8)) % 256 = (byt (upto f (i + 1)) (i / 8) : Int) := by
  have e : byt (upto f (i + 1)) (i / 8) = 2 ^ (i % 8) + byt (upto f i) (i / 8) := by
    have hlt : byt (upto f i) (i / 8) < 2 ^ (i % 8) := by
      apply Nat.lt_pow_two_of_testBit
      intro j hj
      rw [testBit_byt]
      unfold upto
      have : ¬ (8 * (i / 8) + j < i) := by omega
      simp [this]
    apply Nat.eq_of_testBit_eq
    intro j
    rw [testBit_byt]
    rcases Nat.lt_trichotomy j (i % 8) with hj | hj | hj
    · rw [Nat.testBit_two_pow_add_gt hj, testBit_byt]
      congr 1
      unfold upto
      have a : 8 * (i / 8) + j < i := by omega
      have b : 8 * (i / 8) + j < i + 1 := by omega
      simp [a, b]
    · subst hj
      rw [Nat.testBit_two_pow_add_eq, testBit_byt]
      have a : 8 * (i / 8) + i % 8 = i := by omega
      have b : i % 8 < 8 := by omega
      rw [a]
      unfold upto
      simp [h, b]
    · have h2 : 2 ^ (i % 8) + byt (upto f i) (i / 8) < 2 ^ (i % 8 + 1) := by rw [Nat.pow_succ]; omega
      rw [tb_hi (n := i % 8 + 1) h2 (by omega)]
      unfold upto
      have : ¬ (8 * (i / 8) + j < i + 1) := by omega
      simp [this]
  have h3 := byt_lt (upto f (i + 1)) (i / 8)
  have h4 : (2 : Int) ^ (i % 8) = ((2 ^ (i % 8) : Nat) : Int) := by simp
  rw [h4, e]
  rw [e] at h3
  omega
theorem bytesOf_upto (f : Nat → Bool) (n : Nat) (h : ∀ x, n ≤ x → f x = false) : bytesOf (upto f n) n = bytesOf f n := by
  have : upto f n = f := by
    funext x
    unfold upto
    by_cases hx : x < n
    · simp [hx]
    · rw [h x (by omega)]; simp
  rw [this]
end Go.Proofs.YtegmgflplhpacaaDoor
