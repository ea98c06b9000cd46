/- The walk of the statement DrawCounts: the call returns true and turns nothing that was there; no condition. -/
import Derived.Test.YthhmjaaoidhciaaDrawL
import Derived.Test.YthhmjaaoidhciaaShufS
namespace Go.Proofs.Ythhmjaaoidhciaa
open Go.RowKit

/-- The first m of a slice. -/
theorem Sl.take {w : World} {a : Option Addr} {n c : Nat} {l : List Int} (h : Sl w (.slice a n c) 1 n (ints l)) (m : Nat) (hm : m ≤ n) (h0 : a = none → m = 0) : Sl w (.slice a m c) 1 m (ints (l.take m)) := by
  rcases h with ⟨h1, h2, h3⟩ | ⟨x, c', h1, h2, h3⟩
  · simp only [Value.slice.injEq] at h1
    obtain ⟨rfl, rfl, rfl⟩ := h1
    obtain rfl : m = 0 := by omega
    exact .inl ⟨rfl, rfl, by simp⟩
  · simp only [Value.slice.injEq] at h1
    obtain ⟨rfl, _, rfl⟩ := h1
    have hl : l.length = n := by simpa using h2
    refine .inr ⟨x, c, rfl, by simp; omega, fun j u hj => h3 j u ?_⟩
    have hlt := (List.getElem?_eq_some_iff.1 hj).1
    simp at hlt
    rw [List.getElem?_map, List.getElem?_take, if_pos (by omega)] at hj
    rw [List.getElem?_map]; exact hj

set_option maxHeartbeats 2000000 in
theorem drawCounts_walk (a0 : Int) (a1 : Option Addr) (len1 cap1 : Nat) (z1 : List Int) (a2 : Int) (w : World) (_ : (Lit.int .u64 a0).wf = true) (h1 : IsRow .i64 w a1 len1 cap1 z1) (_ : (Lit.int .i64 a2).wf = true) :
    Calls Try.prog 9 #[.int .u64 a0, .slice a1 len1 cap1, .int .i64 a2] w fun e w' => e = .returned (.bool true) ∧ Below w.heap.size w w' := by
  have hs := h1.sl
  clear h1
  generalize z1.take len1 = xs at hs
  have hl : xs.length = len1 := by have := hs.len; simpa using this
  by_cases h500 : 500 < len1
  · have h5 : (500 : Int) < len1 := by omega
    clear hs hl
    go_enter Try.func9, Try.ntmps9
    go_wp2_with fail
    refine (awake10 _).mono ?_; rintro e w1 ⟨rfl, hb1⟩
    go_wp2_with fail
    refine (drawNew _ _).mono ?_; rintro e w' ⟨rfl, rfl⟩
    go_wp2_with fail
    refine (drawNew _ _).mono ?_; rintro e w' ⟨rfl, rfl⟩
    go_wp2_with fail
    go_ret
    exact ⟨rfl, (hb1.alloc hb1.size _).alloc (by have := hb1.size; simp; omega) _⟩
  · have h5 : (len1 : Int) ≤ 500 := by omega
    subst hl
    have HS := Lib.hid hs
    clear hs
    go_enter Try.func9, Try.ntmps9
    go_wp2_with fail
    refine (awake10 _).mono ?_; rintro e w1 ⟨rfl, hb1⟩
    go_wp2_with fail
    refine (drawNew _ _).mono ?_; rintro e w' ⟨rfl, rfl⟩
    go_wp2_with fail
    refine (drawNew _ _).mono ?_; rintro e w' ⟨rfl, rfl⟩
    go_wp2_with fail
    have hs1 := hb1.size
    obtain ⟨w2, hw2⟩ : ∃ w2, w2 = (w1.alloc (.cells #[.int .u64 a0] 44)).alloc (.cells #[.int .u64 a0] 44) := ⟨_, rfl⟩
    rw [← hw2]
    obtain ⟨B, hB⟩ : ∃ B, B = w1.heap.size := ⟨_, rfl⟩
    rw [← hB] at hs1 ⊢
    have hb2 : Below w.heap.size w w2 := by subst hw2; exact (hb1.alloc (by omega) _).alloc (by simp; omega) _
    have c0 : w2.cell? ⟨B, 0, none⟩ = some (.int .u64 a0) := by subst hw2; subst hB; go_simp
    have f0 : w2.frozen? ⟨B, 0, none⟩ = false := by subst hw2; subst hB; go_simp
    have d0 : w2.cell? ⟨B + 1, 0, none⟩ = some (.int .u64 a0) := by subst hw2; subst hB; go_simp
    have e0 : w2.frozen? ⟨B + 1, 0, none⟩ = false := by subst hw2; subst hB; go_simp
    have hz2 : B + 2 = w2.heap.size := by subst hw2; simp [hB]
    clear hw2 hB hb1
    have s2 := HS.out.below hb2 (Nat.le_refl _)
    refine (drawSample _ xs a0 a2 _ _ s2 (by omega) c0 f0).mono ?_; rintro e w3 ⟨v1, rfl, ho1, c1, f1, hm1⟩
    have d1 : w3.cell? ⟨B + 1, 0, none⟩ = some (.int .u64 a0) := hm1.cell d0 (by simp)
    have e1 : w3.frozen? ⟨B + 1, 0, none⟩ = false := (hm1.frozen (p := ⟨B + 1, 0, none⟩) (by show B + 1 < _; omega) (by simp)).trans e0
    have hb3 : Below w.heap.size w w3 := below_mod hb2 (by omega) hm1 (by intro k hk; omega)
    have hz3 := hm1.size
    have s3 := HS.out.below hb3 (Nat.le_refl _)
    go_wp2_with fail
    refine (drawShuffle _ xs a0 _ _ s3 (by omega) d1 e1).mono ?_; rintro e w4 ⟨v2, rfl, ho2, d2, e2, hm2⟩
    have q1 := ho1.blk
    have hmn := smp_le a2 xs.length
    have hm := smp_eq a2 xs.length
    have hmI : (smp a2 xs.length : Int) ≤ xs.length := by omega
    have r1 : Sl w4 v1 1 (smp a2 xs.length) (ints ((shuffled a0 xs).take (smp a2 xs.length))) := ho1.sl.mod hm2 (by intro x m c hv; have := q1 x m c hv; omega)
    have c2 : w4.cell? ⟨B, 0, none⟩ = some (.int .u64 (shufSt a0 xs)) := hm2.cell c1 (by simp)
    have hb4 : Below w.heap.size w w4 := below_mod hb3 (by omega) hm2 (by intro k hk; omega)
    -- v1's shape, v2's shape
    obtain ⟨x1, cp1, rfl⟩ : ∃ x c, v1 = .slice x (smp a2 xs.length) c := by
      rcases r1 with ⟨h1, h2, _⟩ | ⟨x, c, h1, _⟩
      · exact ⟨none, 0, by rw [h2]; exact h1⟩
      · exact ⟨_, _, h1⟩
    obtain ⟨x2, cp2, rfl, hcp2, hnone⟩ : ∃ x c, v2 = .slice x xs.length c ∧ xs.length ≤ c ∧ (x = none → xs.length = 0) := by
      rcases ho2.2 with ⟨h1, h2⟩ | ⟨g, cap, cur, h1, _, _, h2, _⟩
      · exact ⟨none, 0, by rw [h2]; exact h1, by omega, fun _ => h2⟩
      · exact ⟨_, _, h1, h2, fun h => by cases h⟩
    have r2 := (ho2.sl).take (smp a2 xs.length) hmn (fun h => by have := hnone h; omega)
    have R1 := Lib.hid r1
    have R2 := Lib.hid r2
    clear r1 r2 ho1 ho2 q1 s2 s3 hm1 hm2 hnone
    generalize smp a2 xs.length = m at *
    have hmc : (m : Int) ≤ cp2 := by omega
    go_wp2_with fail
    refine (same10 _ _ _ _ _ R1.out R2.out (by omega)).mono ?_; rintro e w5 ⟨rfl, nd, rfl⟩
    go_wp2_with fail
    refine (drawState (shufSt a0 xs) _ _ (by go_simp)).mono ?_; rintro e w' ⟨rfl, rfl⟩
    go_wp2_with fail
    refine (drawState (shufSt a0 xs) _ _ (by go_simp)).mono ?_; rintro e w' ⟨rfl, rfl⟩
    go_wp2_with fail
    go_ret
    exact ⟨rfl, below_drewN hb4 _⟩
end Go.Proofs.Ythhmjaaoidhciaa
