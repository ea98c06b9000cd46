/- The walk of the statement BitsFills: the call returns true and turns nothing that was there; no condition but the library's table. -/
import Derived.Test.YtdfdkacnejichaaDoorBitsX
import Derived.Test.YtdfdkacnejichaaDoorBitsW
import Derived.Test.YtdfdkacnejichaaDoorReg
namespace Go.Proofs.YtdfdkacnejichaaDoor
open Go Go.RowKit Go.IntWalk

theorem strB {w : World} {v : Value} {m : Nat} {bs : List Nat} (h : Sl w v 1 m (byts bs)) : (convert 36 9 v).run Tryd.prog w = .ok (.string (strOf bs)) w :=
  str_conv w _ _ 5 (by kernel_rfl) (by kernel_rfl) (by kernel_rfl) _ m _ h
theorem Sl.ex {w w' : World} {v : Value} {size n : Nat} {xs : List Value} (h : Sl w v size n xs) (hx : Ex w w') : Sl w' v size n xs := h.keep fun _ _ hp _ => hx.cell hp

set_option maxRecDepth 100000 in
set_option maxHeartbeats 2000000 in
theorem bitsFills_walk (n : Int) (a1 : Option Addr) (len1 cap1 : Nat) (l : List St) (t : St) (w : World) (hT : TabW w) (_ : (Lit.int .i64 n).wf = true) (hl : IsSteps w a1 len1 l) (_ : True) :
    Calls Tryd.prog 4 #[.int .i64 n, .slice a1 len1 cap1, stV t] w fun e w' => e = .returned (.bool true) ∧ Below w.heap.size w w' := by
  refine Calls.mono (R := fun e w' => e = .returned (.bool true) ∧ Mod (fun _ => False) w w') ?_ (fun e w' ⟨h1, h2⟩ => ⟨h1, h2.below (Nat.le_refl _) (fun _ h => h.elim)⟩)
  obtain ⟨d, i, j, one⟩ := t
  unfold stV
  dsimp only
  by_cases hbad : n < 0 ∨ 700 < n
  · have HB := Lib.hid hbad
    clear hbad hl
    go_enter Tryd.func4, Tryd.ntmps4
    go_wp2_with fail
    refine (awake02 _).mono ?_; rintro e w1 ⟨rfl, m1⟩
    go_wp2_with fail
    refine (madeBad _ _ _ HB.out).mono ?_; rintro e w' ⟨rfl, rfl⟩
    go_wp2_with fail
    refine (madeBad _ _ _ HB.out).mono ?_; rintro e w' ⟨rfl, rfl⟩
    go_wp2_with fail
    go_ret
    exact ⟨rfl, ((Mod.refl _ w).alloc _).trans m1⟩
  · obtain ⟨n, rfl⟩ : ∃ k : Nat, n = k := ⟨n.toNat, by omega⟩
    have hn : n ≤ 700 := by omega
    have HL := Lib.hid hl
    have HT := Lib.hid hT
    have hTl := hT.lt
    clear hbad hl hT
    go_enter Tryd.func4, Tryd.ntmps4
    go_wp2_with fail
    refine (awake02 _).mono ?_; rintro e w1 ⟨rfl, m1⟩
    have hx := (Blk.new w #[.int .i64 d, .int .i64 i, .int .i64 j, .bool one] 33).mod m1 (fun h => h)
    have hxlt := hx.lt
    have m01 := ((Mod.refl (fun _ => False) w).alloc _).trans m1
    clear m1
    go_wp2_with fail
    refine (madeOk n a1 len1 cap1 l _ hn (HL.out.new m01) (HT.out.mod m01 (fun h => h))).mono ?_; rintro e w2 ⟨b, g, b', g', rfl, tw, m2, n1, n2, n3, n4⟩
    have m02 := m01.trans m2
    have hx := hx.mod m2 (fun h => h)
    have z2 := tw.s.lt
    have z3 := tw.r.lt
    go_wp2_with fail
    refine (madeOk n a1 len1 cap1 l _ hn (HL.out.new m02) (HT.out.mod m02 (fun h => h))).mono ?_; rintro e w3 ⟨c, k, c', k', rfl, tv, m3, n5, n6, n7, n8⟩
    have m03 := m02.trans m3
    have hx := hx.mod m3 (fun h => h)
    have sa := tw.s.mod m3 (fun h => h) (fun h => h)
    have sb := tv.s
    have hc0 := hx.cell 0; have hc1 := hx.cell 1; have hc2 := hx.cell 2; have hc3 := hx.cell 3
    obtain ⟨T, hTT⟩ : ∃ T, T = w.heap.size := ⟨_, rfl⟩
    rw [← hTT] at hc0 hc1 hc2 hc3 hxlt ⊢
    have hgT : gTab ≠ k := by omega
    obtain ⟨f, hf⟩ : ∃ f, f = stFs n (l.take 60) := ⟨_, rfl⟩
    rw [← hf] at sa sb
    have z4 := m2.size
    have hne : T ≠ g ∧ T ≠ k ∧ w.heap.size ≤ g ∧ w.heap.size ≤ k ∧ b ≠ k ∧ g ≠ k ∧ c ≠ g ∧ k ≠ g := by have := m01.size; have := hTT; omega
    have HNE := Lib.hid hne
    have SA := Lib.hid sa; have SB := Lib.hid sb; have M03 := Lib.hid m03
    clear hx m01 m02 m03 m2 m3 tw tv z2 z3 z4 n1 n2 n3 n4 n5 n6 n7 n8 sa sb hf hTT hne hgT hxlt
    by_cases hin : 0 ≤ i ∧ i ≤ j ∧ j ≤ n
    · obtain ⟨p, rfl⟩ : ∃ k : Nat, i = k := ⟨i.toNat, by omega⟩
      obtain ⟨q, rfl⟩ : ∃ k : Nat, j = k := ⟨j.toNat, by omega⟩
      have hpq : p ≤ q := by omega
      have hqn : q ≤ n := by omega
      clear hin
      go_wp2_with fail
      refine (bitsFill b g n f p q one _ SA.out hpq hqn).mono ?_; rintro e w4 ⟨rfl, sa4, m4⟩
      have hne := HNE.out
      have d0 := m4.cell hc0 (by show ¬ T = g; omega); have d1 := m4.cell hc1 (by show ¬ T = g; omega); have d2 := m4.cell hc2 (by show ¬ T = g; omega); have d3 := m4.cell hc3 (by show ¬ T = g; omega)
      have sb4 := SB.out.mod m4 hne.2.2.2.2.2.2.1 hne.2.2.2.2.2.2.2
      have SA4 := Lib.hid sa4; have SB4 := Lib.hid sb4
      have m04 := M03.out.new m4 (by intro i hi; omega)
      have M04 := Lib.hid m04
      have y1 : decide (q < p) = false := by simpa using hpq
      have y2 : decide (n < q) = false := by simpa using hqn
      clear sa4 sb4 m4 m04 hc0 hc1 hc2 hc3 hne
      go_wp2_with fail
      go_loopw [15] (fun v wr => ∃ x : Nat, v = .int .i64 x ∧ p ≤ x ∧ x ≤ q ∧ Hid (BSet wr c k n (fil f p x one)) ∧ Mod (· = k) w4 wr) (fun v _ => q - (intOf v).toNat)
      case atStart => exact ⟨p, rfl, Nat.le_refl _, hpq, by rw [fil_self]; exact SB4, Mod.refl _ _⟩
      case round =>
        obtain ⟨x, rfl, hx1, hx2, hs, hm⟩ := hrel
        have hne := HNE.out
        have g1 := hm.cell d1 (by show ¬ T = k; omega); have g2 := hm.cell d2 (by show ¬ T = k; omega); have g3 := hm.cell d3 (by show ¬ T = k; omega)
        clear hne
        by_cases hl : (x : Int) < q
        · have hxn : x < n := by omega
          have hsnoc : fil (fil f p x one) x (x + 1) one = fil f p (x + 1) one := fil_fil f p x (x + 1) one hx1 (by omega)
          have HSN := Lib.hid hsnoc
          clear hsnoc
          go_wp2_with fail
          refine (bitsPut c k n _ x one _ hs.out hxn).mono ?_; rintro e w5 ⟨rfl, s5, m5⟩
          rw [HSN.out] at s5
          have S5 := Lib.hid s5
          have m6 := hm.trans m5
          clear s5 m5 hm
          go_wp2_with fail
          exact ⟨⟨x + 1, by go_num, by omega, by omega, S5, m6⟩, by simp [intOf]; omega⟩
        · obtain rfl : x = q := by omega
          have hne := HNE.out
          have sa5 := SA4.out.mod hm hne.2.2.2.2.1 hne.2.2.2.2.2.1
          have m05 := M04.out.new hm (by intro i hi; omega)
          have SA5 := Lib.hid sa5
          have M05 := Lib.hid m05
          clear sa5 m05 hne hm g1 g3
          go_wp2_with fail
          refine wp_region2 [(4, 4), (5, 3), (7, 4)] [] (by kernel_rfl) (by kernel_rfl) ?_
          repeat (first | (refine reg_anyT (by rfl) (fun K hK => ?_); go_simp; refine hK _ _ ?_; clear hK K) | (refine reg_read (by rfl) (fun K hK => ?_); go_simp; refine hK _ _ ?_; clear hK K))
          refine reg_new (by rfl) (fun rn K hK => ?_); go_simp
          refine (bitsBytes _ _ _ _ _ (SA5.out.drewN rn).toBRaw).mono ?_; rintro e w5 ⟨rfl, y1, y2, y3⟩
          refine hK _ _ ⟨y2.ex, ?_⟩; clear hK K
          repeat (first | (refine reg_anyT (by rfl) (fun K hK => ?_); go_simp; refine hK _ _ ?_; clear hK K) | (refine reg_read (by rfl) (fun K hK => ?_); go_simp; refine hK _ _ ?_; clear hK K))
          refine reg_hold_v (by rfl) (by rfl) (.string (strOf (bytesOf (fil f p x one) n))) (fun w' hw' => q_conv _ _ _ rfl (strB (y1.ex hw'))) ?_
          repeat (first | (refine reg_anyT (by rfl) (fun K hK => ?_); go_simp; refine hK _ _ ?_; clear hK K) | (refine reg_read (by rfl) (fun K hK => ?_); go_simp; refine hK _ _ ?_; clear hK K))
          refine reg_new (by rfl) (fun rn K hK => ?_); go_simp
          refine (bitsBytes _ _ _ _ _ ((hs.out.mod y2.undrew (fun h => h) (fun h => h)).drewN rn).toBRaw).mono ?_; rintro e w6 ⟨rfl, y4, y5, y6⟩
          refine hK _ _ ⟨y5.ex, ?_⟩; clear hK K
          repeat (first | (refine reg_anyT (by rfl) (fun K hK => ?_); go_simp; refine hK _ _ ?_; clear hK K) | (refine reg_read (by rfl) (fun K hK => ?_); go_simp; refine hK _ _ ?_; clear hK K))
          refine reg_read_v (by rfl) (by rfl) (.string (strOf (bytesOf (fil f p x one) n))) (fun rn => q_conv _ _ _ rfl (strB (y4.drewN rn))) ?_
          repeat (first | (refine reg_anyT (by rfl) (fun K hK => ?_); go_simp; refine hK _ _ ?_; clear hK K) | (refine reg_read (by rfl) (fun K hK => ?_); go_simp; refine hK _ _ ?_; clear hK K))
          refine reg_nil (fun nd => ?_)
          have m6 := (M05.out.trans y2.undrew).trans y5.undrew
          clear y1 y2 y3 y4 y5 y6
          go_wp2_with fail
          go_ret
          exact ⟨by simp, m6.drewN _⟩
    · have hbad : i < 0 ∨ j < i ∨ (n : Int) < j := by omega
      have HB := Lib.hid hbad
      clear hin hbad
      go_wp2_with fail
      refine (bitsFillBad b g n f i j one _ SA.out HB.out).mono ?_; rintro e w4 ⟨rfl, rfl⟩
      have hbad := HB.out
      by_cases q1 : i < 0
      · clear hbad
        go_wp2_with fail
        refine wp_region2 [(4, 4), (5, 3), (7, 4)] [] (by kernel_rfl) (by kernel_rfl) ?_
        repeat (first | (refine reg_anyT (by rfl) (fun K hK => ?_); go_simp; refine hK _ _ ?_; clear hK K) | (refine reg_read (by rfl) (fun K hK => ?_); go_simp; refine hK _ _ ?_; clear hK K))
        refine reg_new (by rfl) (fun rn K hK => ?_); go_simp
        refine (bitsBytes _ _ _ _ _ (SA.out.drewN rn).toBRaw).mono ?_; rintro e w5 ⟨rfl, y1, y2, y3⟩
        refine hK _ _ ⟨y2.ex, ?_⟩; clear hK K
        repeat (first | (refine reg_anyT (by rfl) (fun K hK => ?_); go_simp; refine hK _ _ ?_; clear hK K) | (refine reg_read (by rfl) (fun K hK => ?_); go_simp; refine hK _ _ ?_; clear hK K))
        refine reg_hold_v (by rfl) (by rfl) (.string (strOf (bytesOf f n))) (fun w' hw' => q_conv _ _ _ rfl (strB (y1.ex hw'))) ?_
        repeat (first | (refine reg_anyT (by rfl) (fun K hK => ?_); go_simp; refine hK _ _ ?_; clear hK K) | (refine reg_read (by rfl) (fun K hK => ?_); go_simp; refine hK _ _ ?_; clear hK K))
        refine reg_new (by rfl) (fun rn K hK => ?_); go_simp
        refine (bitsBytes _ _ _ _ _ ((SB.out.mod y2.undrew (fun h => h) (fun h => h)).drewN rn).toBRaw).mono ?_; rintro e w6 ⟨rfl, y4, y5, y6⟩
        refine hK _ _ ⟨y5.ex, ?_⟩; clear hK K
        repeat (first | (refine reg_anyT (by rfl) (fun K hK => ?_); go_simp; refine hK _ _ ?_; clear hK K) | (refine reg_read (by rfl) (fun K hK => ?_); go_simp; refine hK _ _ ?_; clear hK K))
        refine reg_read_v (by rfl) (by rfl) (.string (strOf (bytesOf f n))) (fun rn => q_conv _ _ _ rfl (strB (y4.drewN rn))) ?_
        repeat (first | (refine reg_anyT (by rfl) (fun K hK => ?_); go_simp; refine hK _ _ ?_; clear hK K) | (refine reg_read (by rfl) (fun K hK => ?_); go_simp; refine hK _ _ ?_; clear hK K))
        refine reg_nil (fun nd => ?_)
        have m6 := (M03.out.trans y2.undrew).trans y5.undrew
        clear y1 y2 y3 y4 y5 y6
        go_wp2_with fail
        go_ret
        exact ⟨by simp, m6.drewN _⟩
      · by_cases q2 : j < i
        · clear hbad
          go_wp2_with fail
          refine wp_region2 [(4, 4), (5, 3), (7, 4)] [] (by kernel_rfl) (by kernel_rfl) ?_
          repeat (first | (refine reg_anyT (by rfl) (fun K hK => ?_); go_simp; refine hK _ _ ?_; clear hK K) | (refine reg_read (by rfl) (fun K hK => ?_); go_simp; refine hK _ _ ?_; clear hK K))
          refine reg_new (by rfl) (fun rn K hK => ?_); go_simp
          refine (bitsBytes _ _ _ _ _ (SA.out.drewN rn).toBRaw).mono ?_; rintro e w5 ⟨rfl, y1, y2, y3⟩
          refine hK _ _ ⟨y2.ex, ?_⟩; clear hK K
          repeat (first | (refine reg_anyT (by rfl) (fun K hK => ?_); go_simp; refine hK _ _ ?_; clear hK K) | (refine reg_read (by rfl) (fun K hK => ?_); go_simp; refine hK _ _ ?_; clear hK K))
          refine reg_hold_v (by rfl) (by rfl) (.string (strOf (bytesOf f n))) (fun w' hw' => q_conv _ _ _ rfl (strB (y1.ex hw'))) ?_
          repeat (first | (refine reg_anyT (by rfl) (fun K hK => ?_); go_simp; refine hK _ _ ?_; clear hK K) | (refine reg_read (by rfl) (fun K hK => ?_); go_simp; refine hK _ _ ?_; clear hK K))
          refine reg_new (by rfl) (fun rn K hK => ?_); go_simp
          refine (bitsBytes _ _ _ _ _ ((SB.out.mod y2.undrew (fun h => h) (fun h => h)).drewN rn).toBRaw).mono ?_; rintro e w6 ⟨rfl, y4, y5, y6⟩
          refine hK _ _ ⟨y5.ex, ?_⟩; clear hK K
          repeat (first | (refine reg_anyT (by rfl) (fun K hK => ?_); go_simp; refine hK _ _ ?_; clear hK K) | (refine reg_read (by rfl) (fun K hK => ?_); go_simp; refine hK _ _ ?_; clear hK K))
          refine reg_read_v (by rfl) (by rfl) (.string (strOf (bytesOf f n))) (fun rn => q_conv _ _ _ rfl (strB (y4.drewN rn))) ?_
          repeat (first | (refine reg_anyT (by rfl) (fun K hK => ?_); go_simp; refine hK _ _ ?_; clear hK K) | (refine reg_read (by rfl) (fun K hK => ?_); go_simp; refine hK _ _ ?_; clear hK K))
          refine reg_nil (fun nd => ?_)
          have m6 := (M03.out.trans y2.undrew).trans y5.undrew
          clear y1 y2 y3 y4 y5 y6
          go_wp2_with fail
          go_ret
          exact ⟨by simp, m6.drewN _⟩
        · have q3 : (n : Int) < j := by omega
          clear hbad
          go_wp2_with fail
          refine wp_region2 [(4, 4), (5, 3), (7, 4)] [] (by kernel_rfl) (by kernel_rfl) ?_
          repeat (first | (refine reg_anyT (by rfl) (fun K hK => ?_); go_simp; refine hK _ _ ?_; clear hK K) | (refine reg_read (by rfl) (fun K hK => ?_); go_simp; refine hK _ _ ?_; clear hK K))
          refine reg_new (by rfl) (fun rn K hK => ?_); go_simp
          refine (bitsBytes _ _ _ _ _ (SA.out.drewN rn).toBRaw).mono ?_; rintro e w5 ⟨rfl, y1, y2, y3⟩
          refine hK _ _ ⟨y2.ex, ?_⟩; clear hK K
          repeat (first | (refine reg_anyT (by rfl) (fun K hK => ?_); go_simp; refine hK _ _ ?_; clear hK K) | (refine reg_read (by rfl) (fun K hK => ?_); go_simp; refine hK _ _ ?_; clear hK K))
          refine reg_hold_v (by rfl) (by rfl) (.string (strOf (bytesOf f n))) (fun w' hw' => q_conv _ _ _ rfl (strB (y1.ex hw'))) ?_
          repeat (first | (refine reg_anyT (by rfl) (fun K hK => ?_); go_simp; refine hK _ _ ?_; clear hK K) | (refine reg_read (by rfl) (fun K hK => ?_); go_simp; refine hK _ _ ?_; clear hK K))
          refine reg_new (by rfl) (fun rn K hK => ?_); go_simp
          refine (bitsBytes _ _ _ _ _ ((SB.out.mod y2.undrew (fun h => h) (fun h => h)).drewN rn).toBRaw).mono ?_; rintro e w6 ⟨rfl, y4, y5, y6⟩
          refine hK _ _ ⟨y5.ex, ?_⟩; clear hK K
          repeat (first | (refine reg_anyT (by rfl) (fun K hK => ?_); go_simp; refine hK _ _ ?_; clear hK K) | (refine reg_read (by rfl) (fun K hK => ?_); go_simp; refine hK _ _ ?_; clear hK K))
          refine reg_read_v (by rfl) (by rfl) (.string (strOf (bytesOf f n))) (fun rn => q_conv _ _ _ rfl (strB (y4.drewN rn))) ?_
          repeat (first | (refine reg_anyT (by rfl) (fun K hK => ?_); go_simp; refine hK _ _ ?_; clear hK K) | (refine reg_read (by rfl) (fun K hK => ?_); go_simp; refine hK _ _ ?_; clear hK K))
          refine reg_nil (fun nd => ?_)
          have m6 := (M03.out.trans y2.undrew).trans y5.undrew
          clear y1 y2 y3 y4 y5 y6
          go_wp2_with fail
          go_ret
          exact ⟨by simp, m6.drewN _⟩
end Go.Proofs.YtdfdkacnejichaaDoor
