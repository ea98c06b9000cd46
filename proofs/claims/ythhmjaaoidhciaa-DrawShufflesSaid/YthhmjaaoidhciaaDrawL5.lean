/- The walk of the statement DrawShuffles: the call returns true and turns nothing that was there; no condition. -/
import Derived.Test.YthhmjaaoidhciaaDrawL
import Derived.Test.YthhmjaaoidhciaaShufS
namespace Go.Proofs.Ythhmjaaoidhciaa
open Go.RowKit

set_option maxHeartbeats 2000000 in
theorem drawShuffles_walk (a0 : Int) (a1 : Option Addr) (len1 cap1 : Nat) (z1 : List Int) (a2 : Int) (w : World) (_ : (Lit.int .u64 a0).wf = true) (h1 : IsRow .i64 w a1 len1 cap1 z1) (_ : (Lit.int .i64 a2).wf = true) :
    Calls Try.prog 8 #[.int .u64 a0, .slice a1 len1 cap1, .int .i64 a2] w fun e w' => e = .returned (.bool true) ∧ Below w.heap.size w w' := by
  have hs := h1.sl
  clear h1
  generalize z1.take len1 = xs at hs
  have hl : xs.length = len1 := by have := hs.len; simpa using this
  by_cases h500 : 500 < len1
  · have h5 : (500 : Int) < len1 := by omega
    clear hs hl
    go_enter Try.func8, Try.ntmps8
    go_wp2_with fail
    refine (awake10 _).mono ?_; rintro e w1 ⟨rfl, hb1⟩
    go_wp2_with fail
    refine (drawNew _ _).mono ?_; rintro e w' ⟨rfl, rfl⟩
    go_wp2_with fail
    go_ret
    exact ⟨rfl, (hb1.alloc hb1.size _).alloc (by have := hb1.size; simp; omega) _⟩
  · have h5 : (len1 : Int) ≤ 500 := by omega
    subst hl
    have HS := Lib.hid hs
    clear hs
    go_enter Try.func8, Try.ntmps8
    go_wp2_with fail
    refine (awake10 _).mono ?_; rintro e w1 ⟨rfl, hb1⟩
    go_wp2_with fail
    refine (drawNew _ _).mono ?_; rintro e w' ⟨rfl, rfl⟩
    go_wp2_with fail
    have hs1 := hb1.size
    obtain ⟨w2, hw2⟩ : ∃ w2, w2 = (w1.alloc (.cells #[.int .u64 a0] 44)).alloc (.cells #[.int .u64 a0] 29) := ⟨_, rfl⟩
    rw [← hw2]
    obtain ⟨B, hB⟩ : ∃ B, B = w1.heap.size := ⟨_, rfl⟩
    rw [← hB] at hs1 ⊢
    have hb2 : Below w.heap.size w w2 := by subst hw2; exact (hb1.alloc (by omega) _).alloc (by simp; omega) _
    have c0 : w2.cell? ⟨B, 0, none⟩ = some (.int .u64 a0) := by subst hw2; subst hB; go_simp
    have f0 : w2.frozen? ⟨B, 0, none⟩ = false := by subst hw2; subst hB; go_simp
    have d0 : w2.cell? ⟨B + 1, 0, none⟩ = some (.int .u64 a0) := by subst hw2; subst hB; go_simp
    have e0 : w2.frozen? ⟨B + 1, 0, none⟩ = false := by subst hw2; subst hB; go_simp
    have hz2 : B + 2 = w2.heap.size := by subst hw2; simp [hB]
    clear hw2 hB hb1
    have s2 := HS.out.below hb2 (Nat.le_refl _)
    refine (drawShuffle _ xs a0 _ _ s2 (by omega) c0 f0).mono ?_; rintro e w3 ⟨v1, rfl, ho1, c1, f1, hm1⟩
    have d1 : w3.cell? ⟨B + 1, 0, none⟩ = some (.int .u64 a0) := hm1.cell d0 (by simp)
    have e1 : w3.frozen? ⟨B + 1, 0, none⟩ = false := (hm1.frozen (p := ⟨B + 1, 0, none⟩) (by show B + 1 < _; omega) (by simp)).trans e0
    have hb3 : Below w.heap.size w w3 := below_mod hb2 (by omega) hm1 (by intro k hk; omega)
    have hz3 := hm1.size
    have s3 := HS.out.below hb3 (Nat.le_refl _)
    go_wp2_with fail
    refine (refShuffle _ xs a0 _ _ s3 (by omega) d1 e1).mono ?_; rintro e w4 ⟨v2, rfl, ho2, d2, e2, hm2⟩
    have q1 := ho1.blk
    have r1 : Sl w4 v1 1 xs.length (ints (shuffled a0 xs)) := ho1.sl.mod hm2 (by intro x m c hv; have := q1 x m c hv; omega)
    have c2 : w4.cell? ⟨B, 0, none⟩ = some (.int .u64 (shufSt a0 xs)) := hm2.cell c1 (by simp)
    have f2 : w4.frozen? ⟨B, 0, none⟩ = false := (hm2.frozen (p := ⟨B, 0, none⟩) (by show B < _; omega) (by simp)).trans f1
    have hb4 : Below w.heap.size w w4 := below_mod hb3 (by omega) hm2 (by intro k hk; omega)
    have hz4 := hm2.size
    go_wp2_with fail
    refine (same10 _ _ (shuffled a0 xs) xs.length _ r1 ho2.sl (by omega)).mono ?_; rintro e w5 ⟨rfl, nd, rfl⟩
    clear s2 s3 ho1 ho2 r1 q1 hm1 hm2
    have s4 := HS.out.below hb4 (Nat.le_refl _)
    go_wp2_with fail
    refine (drawSample _ xs (shufSt a0 xs) a2 _ _ (s4.drewN nd) (by omega) c2 f2).mono ?_; rintro e w6 ⟨v3, rfl, ho3, c3, f3, hm3⟩
    have d3 : w6.cell? ⟨B + 1, 0, none⟩ = some (.int .u64 (shufSt a0 xs)) := hm3.cell d2 (by simp)
    have e3 : w6.frozen? ⟨B + 1, 0, none⟩ = false := (hm3.frozen (p := ⟨B + 1, 0, none⟩) (by show B + 1 < w4.heap.size; omega) (by simp)).trans e2
    have hb6 : Below w.heap.size w w6 := below_mod (below_drewN hb4 _) (by show _ ≤ w4.heap.size; omega) hm3 (by intro k hk; omega)
    have hz6 : w4.heap.size ≤ w6.heap.size := hm3.size
    have s6 := HS.out.below hb6 (Nat.le_refl _)
    go_wp2_with fail
    refine (refSample _ xs (shufSt a0 xs) a2 _ _ s6 (by omega) d3 e3).mono ?_; rintro e w7 ⟨v4, rfl, ho4, d4, e4, hm4⟩
    have q3 := ho3.blk
    have r3 : Sl w7 v3 1 (smp a2 xs.length) (ints ((shuffled (shufSt a0 xs) xs).take (smp a2 xs.length))) := ho3.sl.mod hm4 (by intro x m c hv; have h : w4.heap.size ≤ x.block := (q3 x m c hv).1; omega)
    have c4 : w7.cell? ⟨B, 0, none⟩ = some (.int .u64 (shufSt (shufSt a0 xs) xs)) := hm4.cell c3 (by simp)
    have hb7 : Below w.heap.size w w7 := below_mod hb6 (by omega) hm4 (by intro k hk; omega)
    have hsm := smp_le a2 xs.length
    go_wp2_with fail
    refine (same10 _ _ _ _ _ r3 ho4.sl (by omega)).mono ?_; rintro e w8 ⟨rfl, nd2, rfl⟩
    clear s4 s6 ho3 ho4 r3 q3 hm3 hm4
    go_wp2_with fail
    refine wp_region_stages0 [0, 0, 0, 0, 0, 0, 1, 0, 0, 0, 1, 0, 0, 0] (by kernel_rfl) (by kernel_rfl) ?_
    repeat (first | (refine stage_any (fun K hK => ?_); go_simp; refine hK _ _ ?_; clear hK K) | (refine stage_pin (fun K hK => ?_); go_simp; refine hK _ _ ?_; clear hK K))
    refine stage_pin (fun K hK => ?_); go_simp
    apply pin_draws
    · intro n
      refine (drawState (shufSt (shufSt a0 xs) xs) _ _ (by go_simp)).mono ?_
      rintro e w' ⟨rfl, rfl⟩
      exact ⟨rfl, 0, rfl⟩
    refine hK _ _ ?_; clear hK K
    repeat (first | (refine stage_any (fun K hK => ?_); go_simp; refine hK _ _ ?_; clear hK K) | (refine stage_pin (fun K hK => ?_); go_simp; refine hK _ _ ?_; clear hK K))
    refine stage_nil ?_
    rintro _ ⟨nd, rfl⟩
    go_wp2_with fail
    go_ret
    exact ⟨rfl, below_drewN (below_drewN hb7 _) _⟩
end Go.Proofs.Ythhmjaaoidhciaa
