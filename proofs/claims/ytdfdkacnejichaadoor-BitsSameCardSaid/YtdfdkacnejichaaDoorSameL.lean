/- The walk of the statement BitsSame: the call returns true and turns nothing that was there; no condition but the library's table. -/
import Derived.Test.YtdfdkacnejichaaDoorJoin
import Derived.Test.YtdfdkacnejichaaDoorAlike
import Derived.Test.YtdfdkacnejichaaDoorBitsW
namespace Go.Proofs.YtdfdkacnejichaaDoor
open Go Go.RowKit Go.IntWalk

theorem fAnd_self (f : Nat → Bool) : fAnd f f = f := by funext x; simp [fAnd]
theorem fOr_self (f : Nat → Bool) : fOr f f = f := by funext x; simp [fOr]
theorem fLess_self (f : Nat → Bool) : fLess f f = fun _ => false := by funext x; simp [fLess]
theorem fAnd_comm (f g : Nat → Bool) : fAnd g f = fAnd f g := by funext x; simp [fAnd, Bool.and_comm]
theorem fOr_comm (f g : Nat → Bool) : fOr g f = fOr f g := by funext x; simp [fOr, Bool.or_comm]

/-- Sets that are there. -/
def Sets (w : World) (n : Nat) (xs : List (Nat × Nat × (Nat → Bool))) : Prop := ∀ q ∈ xs, BSet w q.1 q.2.1 n q.2.2
theorem Sets.new {w w' : World} {n : Nat} {xs : List (Nat × Nat × (Nat → Bool))} (h : Sets w n xs) (hm : Mod (fun _ => False) w w') : Sets w' n xs := fun q hq => (h q hq).mod hm (fun h => h) (fun h => h)
theorem Sets.cons {w w' : World} {n b g : Nat} {f : Nat → Bool} {xs : List (Nat × Nat × (Nat → Bool))} (h : Sets w n xs) (hm : Mod (fun _ => False) w w') (s : BSet w' b g n f) : Sets w' n ((b, g, f) :: xs) := by
  intro q hq
  rcases List.mem_cons.1 hq with rfl | hq
  · exact s
  · exact h.new hm q hq
theorem Sets.drewN {w : World} {n : Nat} {xs : List (Nat × Nat × (Nat → Bool))} (h : Sets w n xs) (k : Nat) : Sets (w.drewN k) n xs := fun q hq => (h q hq).drewN k
theorem Sets.at {w : World} {n b g : Nat} {f : Nat → Bool} {xs : List (Nat × Nat × (Nat → Bool))} (h : Sets w n xs) (hq : (b, g, f) ∈ xs) : BSet w b g n f := h _ hq

set_option maxRecDepth 100000 in
set_option maxHeartbeats 4000000 in
theorem bitsSame_walk (n : Int) (a1 : Option Addr) (len1 cap1 : Nat) (l1 : List St) (a2 : Option Addr) (len2 cap2 : Nat) (l2 : List St) (w : World) (hT : TabW w) (_ : (Lit.int .i64 n).wf = true) (hl1 : IsSteps w a1 len1 l1) (hl2 : IsSteps w a2 len2 l2) :
    Calls Tryd.prog 7 #[.int .i64 n, .slice a1 len1 cap1, .slice a2 len2 cap2] w fun e w' => e = .returned (.bool true) ∧ Below w.heap.size w w' := by
  refine Calls.mono (R := fun e w' => e = .returned (.bool true) ∧ Mod (fun _ => False) w w') ?_ (fun e w' ⟨h1, h2⟩ => ⟨h1, h2.below (Nat.le_refl _) (fun _ h => h.elim)⟩)
  by_cases hbad : n < 0 ∨ 700 < n
  · have HB := Lib.hid hbad
    clear hbad hl1 hl2
    go_enter Tryd.func7, Tryd.ntmps7
    go_wp2_with fail
    refine (awake02 _).mono ?_; rintro e w1 ⟨rfl, m1⟩
    go_wp2_with fail
    refine (madeBad _ _ _ HB.out).mono ?_; rintro e w' ⟨rfl, rfl⟩
    go_wp2_with fail
    refine (madeBad _ _ _ HB.out).mono ?_; rintro e w' ⟨rfl, rfl⟩
    go_wp2_with fail
    go_ret
    exact ⟨rfl, m1⟩
  · obtain ⟨n, rfl⟩ : ∃ k : Nat, n = k := ⟨n.toNat, by omega⟩
    have hn : n ≤ 700 := by omega
    have HL1 := Lib.hid hl1
    have HL2 := Lib.hid hl2
    have HT := Lib.hid hT
    clear hbad hl1 hl2 hT
    go_enter Tryd.func7, Tryd.ntmps7
    go_wp2_with fail
    refine (awake02 _).mono ?_; rintro e w1 ⟨rfl, m1⟩
    go_wp2_with fail
    refine (madeOk n a1 len1 cap1 l1 _ hn (HL1.out.new m1) (HT.out.mod m1 (fun h => h))).mono ?_; rintro e w2 ⟨b, g, b', g', rfl, tw, m2, _, _, _, _⟩
    have m12 := m1.trans m2
    go_wp2_with fail
    refine (madeOk n a2 len2 cap2 l2 _ hn (HL2.out.new m12) (HT.out.mod m12 (fun h => h))).mono ?_; rintro e w3 ⟨c, k, c', k', rfl, tv, m3, _, _, _, _⟩
    have M0 := Lib.hid (m12.trans m3)
    obtain ⟨f, hf⟩ : ∃ f, f = stFs n (l1.take 60) := ⟨_, rfl⟩
    obtain ⟨f', hf'⟩ : ∃ f, f = stFs n (l2.take 60) := ⟨_, rfl⟩
    have A3 := tw.s.mod m3 (fun h => h) (fun h => h)
    have B3 := tv.s
    rw [← hf] at A3
    rw [← hf'] at B3
    have HS0 : Hid (Sets w3 n [(b, g, f), (c, k, f')]) := (by
      intro q hq
      simp only [List.mem_cons, List.not_mem_nil, or_false] at hq
      rcases hq with rfl | rfl
      · exact A3
      · exact B3 : Sets w3 n [(b, g, f), (c, k, f')])
    clear tw tv m1 m2 m3 m12 hf hf' A3 B3
    go_wp2_with fail
    refine (bitsAnd _ _ _ _ _ _ _ _ (HS0.out.at (f := f) (g := g) (by simp)) (HS0.out.at (f := f) (g := g) (by simp))).mono ?_; rintro e w4 ⟨x1, y1, rfl, s1, m1, _, _⟩
    rw [fAnd_self] at s1
    have HS1 := Lib.hid (HS0.out.cons m1 s1)
    have M1 := Lib.hid (M0.out.trans m1)
    clear s1 m1 HS0 M0
    go_wp2_with fail
    refine (bitsOr _ _ _ _ _ _ _ _ (HS1.out.at (f := f) (g := g) (by simp)) (HS1.out.at (f := f) (g := g) (by simp))).mono ?_; rintro e w5 ⟨x2, y2, rfl, s2, m2, _, _⟩
    rw [fOr_self] at s2
    have HS2 := Lib.hid (HS1.out.cons m2 s2)
    have M2 := Lib.hid (M1.out.trans m2)
    clear s2 m2 HS1 M1
    go_wp2_with fail
    refine (bitsLess _ _ _ _ _ _ _ _ (HS2.out.at (f := f) (g := g) (by simp)) (HS2.out.at (f := f) (g := g) (by simp))).mono ?_; rintro e w6 ⟨x3, y3, rfl, s3, m3, _, _⟩
    rw [fLess_self] at s3
    have HS3 := Lib.hid (HS2.out.cons m3 s3)
    have M3 := Lib.hid (M2.out.trans m3)
    clear s3 m3 HS2 M2
    go_wp2_with fail
    refine (bitsAnd _ _ _ _ _ _ _ _ (HS3.out.at (f := f) (g := g) (by simp)) (HS3.out.at (f := f') (g := k) (by simp))).mono ?_; rintro e w7 ⟨x4, y4, rfl, s4, m4, _, _⟩
    have HS4 := Lib.hid (HS3.out.cons m4 s4)
    have M4 := Lib.hid (M3.out.trans m4)
    clear s4 m4 HS3 M3
    go_wp2_with fail
    refine (bitsAnd _ _ _ _ _ _ _ _ (HS4.out.at (f := f') (g := k) (by simp)) (HS4.out.at (f := f) (g := g) (by simp))).mono ?_; rintro e w8 ⟨x5, y5, rfl, s5, m5, _, _⟩
    rw [fAnd_comm f f'] at s5
    have HS5 := Lib.hid (HS4.out.cons m5 s5)
    have M5 := Lib.hid (M4.out.trans m5)
    clear s5 m5 HS4 M4
    go_wp2_with fail
    refine (bitsOr _ _ _ _ _ _ _ _ (HS5.out.at (f := f) (g := g) (by simp)) (HS5.out.at (f := f') (g := k) (by simp))).mono ?_; rintro e w9 ⟨x6, y6, rfl, s6, m6, _, _⟩
    have HS6 := Lib.hid (HS5.out.cons m6 s6)
    have M6 := Lib.hid (M5.out.trans m6)
    clear s6 m6 HS5 M5
    go_wp2_with fail
    refine (bitsOr _ _ _ _ _ _ _ _ (HS6.out.at (f := f') (g := k) (by simp)) (HS6.out.at (f := f) (g := g) (by simp))).mono ?_; rintro e w10 ⟨x7, y7, rfl, s7, m7, _, _⟩
    rw [fOr_comm f f'] at s7
    have HS7 := Lib.hid (HS6.out.cons m7 s7)
    have M7 := Lib.hid (M6.out.trans m7)
    clear s7 m7 HS6 M6
    go_wp2_with fail
    refine (bitsBytes _ _ _ _ _ (HS7.out.at (f := f) (g := g) (by simp)).toBRaw).mono ?_; rintro e w11 ⟨rfl, z1, z2, _⟩
    have hcv := strB z1
    have HS8 := Lib.hid (HS7.out.new z2)
    have M8 := Lib.hid (M7.out.trans z2)
    clear z1 z2 HS7 M7
    go_wp2_with fail
    clear hcv
    refine wp_region2 [(1, 4), (2, 3), (7, 4), (8, 3), (19, 4), (20, 3), (22, 4), (23, 3), (28, 4), (29, 3), (31, 4), (32, 3)] [15] (by kernel_rfl) (by kernel_rfl) ?_
    repeat (first | (refine reg_anyT (by rfl) (fun K hK => ?_); go_simp; refine hK _ _ ?_; clear hK K) | (refine reg_read (by rfl) (fun K hK => ?_); go_simp; refine hK _ _ ?_; clear hK K))
    refine reg_new (by rfl) (fun rn K hK => ?_); go_simp
    refine (bitsBytes _ _ _ _ _ ((HS8.out.drewN rn).at (b := x1) (g := y1) (f := f) (by simp)).toBRaw).mono ?_; rintro e v9 ⟨rfl, z1, z2, _⟩
    refine hK _ _ ⟨z2.ex, ?_⟩; clear hK K
    repeat (first | (refine reg_anyT (by rfl) (fun K hK => ?_); go_simp; refine hK _ _ ?_; clear hK K) | (refine reg_read (by rfl) (fun K hK => ?_); go_simp; refine hK _ _ ?_; clear hK K))
    have HS9 := Lib.hid (HS8.out.new z2.undrew)
    have M9 := Lib.hid (M8.out.trans z2.undrew)
    refine reg_hold_v (by rfl) (by rfl) (.string (strOf (bytesOf f n))) (fun w' hw' => q_conv _ _ _ rfl (strB (z1.ex hw'))) ?_
    repeat (first | (refine reg_anyT (by rfl) (fun K hK => ?_); go_simp; refine hK _ _ ?_; clear hK K) | (refine reg_read (by rfl) (fun K hK => ?_); go_simp; refine hK _ _ ?_; clear hK K))
    clear z1 z2 HS8 M8
    refine reg_new (by rfl) (fun rn K hK => ?_); go_simp
    refine (bitsBytes _ _ _ _ _ ((HS9.out.drewN rn).at (b := x2) (g := y2) (f := f) (by simp)).toBRaw).mono ?_; rintro e v10 ⟨rfl, z1, z2, _⟩
    refine hK _ _ ⟨z2.ex, ?_⟩; clear hK K
    repeat (first | (refine reg_anyT (by rfl) (fun K hK => ?_); go_simp; refine hK _ _ ?_; clear hK K) | (refine reg_read (by rfl) (fun K hK => ?_); go_simp; refine hK _ _ ?_; clear hK K))
    have HS10 := Lib.hid (HS9.out.new z2.undrew)
    have M10 := Lib.hid (M9.out.trans z2.undrew)
    refine reg_hold_v (by rfl) (by rfl) (.string (strOf (bytesOf f n))) (fun w' hw' => q_conv _ _ _ rfl (strB (z1.ex hw'))) ?_
    repeat (first | (refine reg_anyT (by rfl) (fun K hK => ?_); go_simp; refine hK _ _ ?_; clear hK K) | (refine reg_read (by rfl) (fun K hK => ?_); go_simp; refine hK _ _ ?_; clear hK K))
    clear z1 z2 HS9 M9
    have hc0 : cnt (fun _ => false) n = 0 := cnt_false n
    refine reg_read (by rfl) (fun K hK => ?_); go_simp
    refine ⟨_, fun rn => rd_same ((bitsCount _ _ _ _ _ ((HS10.out.drewN rn).at (b := x3) (g := y3) (f := fun _ => false) (by simp)))), hK _ _ ?_⟩; clear hK K
    repeat (first | (refine reg_anyT (by rfl) (fun K hK => ?_); go_simp; refine hK _ _ ?_; clear hK K) | (refine reg_read (by rfl) (fun K hK => ?_); go_simp; refine hK _ _ ?_; clear hK K))
    refine reg_new (by rfl) (fun rn K hK => ?_); go_simp
    refine (bitsBytes _ _ _ _ _ ((HS10.out.drewN rn).at (b := x4) (g := y4) (f := (fAnd f f')) (by simp)).toBRaw).mono ?_; rintro e v11 ⟨rfl, z1, z2, _⟩
    refine hK _ _ ⟨z2.ex, ?_⟩; clear hK K
    repeat (first | (refine reg_anyT (by rfl) (fun K hK => ?_); go_simp; refine hK _ _ ?_; clear hK K) | (refine reg_read (by rfl) (fun K hK => ?_); go_simp; refine hK _ _ ?_; clear hK K))
    have HS11 := Lib.hid (HS10.out.new z2.undrew)
    have M11 := Lib.hid (M10.out.trans z2.undrew)
    refine reg_hold_v (by rfl) (by rfl) (.string (strOf (bytesOf (fAnd f f') n))) (fun w' hw' => q_conv _ _ _ rfl (strB (z1.ex hw'))) ?_
    repeat (first | (refine reg_anyT (by rfl) (fun K hK => ?_); go_simp; refine hK _ _ ?_; clear hK K) | (refine reg_read (by rfl) (fun K hK => ?_); go_simp; refine hK _ _ ?_; clear hK K))
    clear z1 z2 HS10 M10
    refine reg_new (by rfl) (fun rn K hK => ?_); go_simp
    refine (bitsBytes _ _ _ _ _ ((HS11.out.drewN rn).at (b := x5) (g := y5) (f := (fAnd f f')) (by simp)).toBRaw).mono ?_; rintro e v12 ⟨rfl, z1, z2, _⟩
    refine hK _ _ ⟨z2.ex, ?_⟩; clear hK K
    repeat (first | (refine reg_anyT (by rfl) (fun K hK => ?_); go_simp; refine hK _ _ ?_; clear hK K) | (refine reg_read (by rfl) (fun K hK => ?_); go_simp; refine hK _ _ ?_; clear hK K))
    have HS12 := Lib.hid (HS11.out.new z2.undrew)
    have M12 := Lib.hid (M11.out.trans z2.undrew)
    refine reg_hold_v (by rfl) (by rfl) (.string (strOf (bytesOf (fAnd f f') n))) (fun w' hw' => q_conv _ _ _ rfl (strB (z1.ex hw'))) ?_
    repeat (first | (refine reg_anyT (by rfl) (fun K hK => ?_); go_simp; refine hK _ _ ?_; clear hK K) | (refine reg_read (by rfl) (fun K hK => ?_); go_simp; refine hK _ _ ?_; clear hK K))
    clear z1 z2 HS11 M11
    refine reg_new (by rfl) (fun rn K hK => ?_); go_simp
    refine (bitsBytes _ _ _ _ _ ((HS12.out.drewN rn).at (b := x6) (g := y6) (f := (fOr f f')) (by simp)).toBRaw).mono ?_; rintro e v13 ⟨rfl, z1, z2, _⟩
    refine hK _ _ ⟨z2.ex, ?_⟩; clear hK K
    repeat (first | (refine reg_anyT (by rfl) (fun K hK => ?_); go_simp; refine hK _ _ ?_; clear hK K) | (refine reg_read (by rfl) (fun K hK => ?_); go_simp; refine hK _ _ ?_; clear hK K))
    have HS13 := Lib.hid (HS12.out.new z2.undrew)
    have M13 := Lib.hid (M12.out.trans z2.undrew)
    refine reg_hold_v (by rfl) (by rfl) (.string (strOf (bytesOf (fOr f f') n))) (fun w' hw' => q_conv _ _ _ rfl (strB (z1.ex hw'))) ?_
    repeat (first | (refine reg_anyT (by rfl) (fun K hK => ?_); go_simp; refine hK _ _ ?_; clear hK K) | (refine reg_read (by rfl) (fun K hK => ?_); go_simp; refine hK _ _ ?_; clear hK K))
    clear z1 z2 HS12 M12
    refine reg_new (by rfl) (fun rn K hK => ?_); go_simp
    refine (bitsBytes _ _ _ _ _ ((HS13.out.drewN rn).at (b := x7) (g := y7) (f := (fOr f f')) (by simp)).toBRaw).mono ?_; rintro e v14 ⟨rfl, z1, z2, _⟩
    refine hK _ _ ⟨z2.ex, ?_⟩; clear hK K
    repeat (first | (refine reg_anyT (by rfl) (fun K hK => ?_); go_simp; refine hK _ _ ?_; clear hK K) | (refine reg_read (by rfl) (fun K hK => ?_); go_simp; refine hK _ _ ?_; clear hK K))
    have HS14 := Lib.hid (HS13.out.new z2.undrew)
    have M14 := Lib.hid (M13.out.trans z2.undrew)
    refine reg_hold_v (by rfl) (by rfl) (.string (strOf (bytesOf (fOr f f') n))) (fun w' hw' => q_conv _ _ _ rfl (strB (z1.ex hw'))) ?_
    repeat (first | (refine reg_anyT (by rfl) (fun K hK => ?_); go_simp; refine hK _ _ ?_; clear hK K) | (refine reg_read (by rfl) (fun K hK => ?_); go_simp; refine hK _ _ ?_; clear hK K))
    clear z1 z2 HS13 M13
    refine reg_nil (fun nd => ?_)
    go_wp2_with fail
    go_ret
    exact ⟨by simp, M14.out.drewN _⟩
end Go.Proofs.YtdfdkacnejichaaDoor
