/- The walk of the statement FlightScripts: the call returns true and turns nothing that was there; no condition. -/
import Derived.Test.YtfdmamaldgpbaaaFwO
namespace Go.Proofs.Ytfdmamaldgpbaaa
open Go Go.RowKit

theorem Mod.bel {w w' : World} (h : Mod (fun _ => False) w w') : Below w.heap.size w w' := h.below (Nat.le_refl _) (fun _ h => h.elim)
theorem Mod.newS {S : Nat → Prop} {w a b : World} (h : Mod (fun _ => False) w a) (k : Mod S a b) (hS : ∀ i, S i → w.heap.size ≤ i) : Mod (fun _ => False) w b := h.new k hS

set_option maxRecDepth 100000 in
set_option maxHeartbeats 4000000 in
theorem flightScripts_walk (z0 : X3) (a1 : Option Addr) (len1 cap1 : Nat) (l : List St) (w : World) (_ : True) (hl : IsSteps w a1 len1 l) :
    Calls Try.prog 3 #[x3V z0, .slice a1 len1 cap1] w fun e w' => e = .returned (.bool true) ∧ Below w.heap.size w w' := by
  refine Calls.mono (R := fun e w' => e = .returned (.bool true) ∧ Mod (fun _ => False) w w') ?_ (fun e w' ⟨h1, h2⟩ => ⟨h1, h2.bel⟩)
  obtain ⟨x, y, z⟩ := z0
  unfold x3V
  dsimp only
  have HL := Lib.hid hl
  have hll : (len1 : Int) ≤ 9223372036854775807 := hl.2.1
  clear hl
  have mx := (Mod.refl (fun _ => False) w).alloc (.cells #[.int .i64 x, .int .i64 y, .int .i64 z] 22)
  have X0 := Lib.hid (Blk.new w #[.int .i64 x, .int .i64 y, .int .i64 z] 22)
  have MX := Lib.hid mx
  obtain ⟨w0, hw0⟩ : ∃ w0, w0 = w.alloc (.cells #[.int .i64 x, .int .i64 y, .int .i64 z] 22) := ⟨_, rfl⟩
  rw [← hw0] at X0 MX
  have HW0 := Lib.hid hw0
  clear mx hw0
  by_cases hok : NewOk x y z
  · have HOK := Lib.hid hok
    clear hok
    go_enter Try.func3, Try.ntmps3
    go_wp2_with fail
    rw [← HW0.out]
    refine (awake16 w0).mono ?_; rintro e w1 ⟨rfl, m1⟩
    have X1 := Lib.hid (X0.out.mod m1 (fun h => h))
    have M1 := Lib.hid (MX.out.trans m1)
    have c0 := X1.out.cell 0; have c1 := X1.out.cell 1; have c2 := X1.out.cell 2
    clear m1
    go_wp2_with fail
    refine (flNew x y z _ HOK.out).mono ?_; rintro e w2 ⟨rfl, t2, m2, s2⟩
    have T2 := Lib.hid t2
    have M2 := Lib.hid m2
    have d0 := m2.cell c0 (fun h => h); have d1 := m2.cell c1 (fun h => h); have d2 := m2.cell c2 (fun h => h)
    clear t2 m2 c0 c1 c2
    go_wp2_with fail
    refine (refNew x y z _ HOK.out).mono ?_; rintro e w3 ⟨rfl, r3, m3, s3⟩
    have e0 := m3.cell d0 (fun h => h); have e1 := m3.cell d1 (fun h => h); have e2 := m3.cell d2 (fun h => h)
    obtain ⟨b, hb⟩ : ∃ b, b = w1.heap.size + 1 := ⟨_, rfl⟩
    obtain ⟨M, hM⟩ : ∃ b, b = w1.heap.size := ⟨_, rfl⟩
    obtain ⟨b', hb'⟩ : ∃ b, b = w2.heap.size := ⟨_, rfl⟩
    have hz : w.heap.size ≤ w1.heap.size := M1.out.size
    have h0 := HOK.out
    unfold NewOk at h0
    have two : Both w3 b M x y z [] b' (b' + 1) x y z [] := by
      refine ⟨⟨?_, ?_, by omega, by omega, by omega, by omega, by omega⟩, Okk.nil _ _ (by omega) (by omega), Okk.nil _ _ (by omega) (by omega), by omega, by omega⟩
      · rw [hb, hM]; exact T2.out.new m3
      · rw [hb']; exact r3
    have TW := Lib.hid two
    have M3 := Lib.hid ((M1.out.trans M2.out).trans m3)
    have HN : Hid (w.heap.size ≤ b ∧ w.heap.size ≤ M ∧ w.heap.size ≤ b') := by show _ ∧ _ ∧ _; omega
    rw [← hb, ← hb']
    clear two r3 m3 hb hM hb' hz T2 M2 M1 d0 d1 d2 s2 s3 h0
    go_wp2_with fail
    go_loopw [10] (fun v wr => ∃ (k : Nat) (ks : List (Int × Rq)), v = .int .i64 k ∧ k ≤ len1 ∧ k ≤ 150 ∧ Hid (Both wr b M x y z ks b' (b' + 1) x y z ks) ∧ Mod (fun _ => False) w wr) (fun v _ => 150 - (intOf v).toNat)
    case atStart => exact ⟨0, [], rfl, Nat.zero_le _, Nat.zero_le _, TW, M3.out⟩
    case round =>
      obtain ⟨k, ks, rfl, hk, hk150, hB, hm⟩ := hrel
      by_cases hlt : k < len1 ∧ k < 150
      · obtain ⟨hlt1, hlt2⟩ := hlt
        obtain ⟨t, ht⟩ : ∃ t, l[k]? = some t := ⟨_, List.getElem?_eq_getElem (by rw [HL.out.1]; exact hlt1)⟩
        obtain ⟨hki, X, rfl, c0, c1, c2, c3⟩ := (HL.out.new hm).2.2 k t ht
        have HKI := Lib.hid hki
        have HT := Lib.hid ht
        have hlt1' : (k : Int) < len1 := by omega
        have hlt2' : (k : Int) < 150 := by omega
        have HM := Lib.hid hm
        have hkl := HM.out.size
        clear ht hki hm
        go_wp2_with fail
        refine (flStep t b M x y z ks b' (b' + 1) x y z ks wr hB.out HKI.out).mono ?_; rintro e w4 ⟨⟨R, rfl, hR⟩, b4, m4⟩
        obtain rfl : R = true := hR ⟨rfl, rfl, rfl, rfl⟩
        have B4 := Lib.hid b4
        have M4 := Lib.hid m4
        obtain ⟨ks4, hks4⟩ : ∃ l, l = stepK x y z ks t := ⟨_, rfl⟩
        rw [← hks4] at B4
        have hm4 : Mod (fun _ => False) w w4 := HM.out.new m4 (by intro i hi; have := HN.out; rcases hi with rfl | rfl <;> omega)
        have HM4 := Lib.hid hm4
        obtain ⟨_, X', hX', g0, g1, g2, g3⟩ := (HL.out.new hm4).2.2 k t HT.out
        cases hX'
        have n4 := B4.out.len
        obtain ⟨a3, cap3, _, _, _, k3, _, he, _, _⟩ := B4.out.two.r.at
        clear hR b4 m4 hks4 hm4 c0 c1 c2 c3 hB
        go_wp2_with fail
        refine wp_regionO2 [0, 2, 3, 4, 5, 1, 6, 7] [(4, 3), (5, 4)] [] (by kernel_rfl) (by kernel_rfl) (by simp only [List.filterMap_cons, List.filterMap_nil, List.getElem?_cons_zero, List.getElem?_cons_succ]; exact rfl) ?_
        repeat (first | (refine reg_anyT (by rfl) (fun K hK => ?_); go_simp; refine hK _ _ ?_; clear hK K) | (refine reg_read (by rfl) (fun K hK => ?_); go_simp; refine hK _ _ ?_; clear hK K))
        refine reg_hold_v (by rfl) (by rfl) (.slice a3 ks4.length cap3) (fun w' hw' => q_load _ _ _ rfl rfl Try.isAgg36 (hw'.cell k3)) ?_
        repeat (first | (refine reg_anyT (by rfl) (fun K hK => ?_); go_simp; refine hK _ _ ?_; clear hK K) | (refine reg_read (by rfl) (fun K hK => ?_); go_simp; refine hK _ _ ?_; clear hK K))
        refine reg_new (by rfl) (fun rn K hK => ?_); go_simp
        refine (flAll b M x y z ks4 _ (B4.out.two.t.drewN rn) (by omega) B4.out.ok.i64).mono ?_; rintro e w' ⟨v5, rfl, o5, m5⟩
        refine hK _ _ ⟨m5.ex, ?_⟩; clear hK K
        repeat (first | (refine reg_anyT (by rfl) (fun K hK => ?_); go_simp; refine hK _ _ ?_; clear hK K) | (refine reg_read (by rfl) (fun K hK => ?_); go_simp; refine hK _ _ ?_; clear hK K))
        obtain ⟨a5, cap5, rfl, _, e5, _⟩ := o5.els
        have E5 := Lib.hid e5
        have E3 := Lib.hid (he.out.new m5.undrew)
        clear o5 e5 he
        refine reg_eff (by rfl) (fun rn2 K hK => ?_); go_simp
        refine (refSame a5 a3 cap5 cap3 ks4 ks4 _ (E5.out.new ((Mod.refl _ _).drewN rn2)) (E3.out.new ((Mod.refl _ _).drewN rn2)) (by omega) (by omega)).mono ?_; rintro e w6 ⟨⟨R, rfl, hR⟩, m6⟩
        obtain rfl : R = true := hR rfl
        refine hK _ _ ?_; clear hK K
        repeat (first | (refine reg_anyT (by rfl) (fun K hK => ?_); go_simp; refine hK _ _ ?_; clear hK K) | (refine reg_read (by rfl) (fun K hK => ?_); go_simp; refine hK _ _ ?_; clear hK K))
        refine reg_nil (fun nd => ?_)
        have m7 := (m5.undrew.trans m6.undrew).drewN nd
        have B7 := Lib.hid (B4.out.new m7)
        have M7 := Lib.hid (HM4.out.trans m7)
        have q0 := m7.cell g0 (fun h => h); have q1 := m7.cell g1 (fun h => h); have q2 := m7.cell g2 (fun h => h); have q3 := m7.cell g3 (fun h => h)
        clear m7 m6 m5 hR k3 g0 g1 g2 g3 E5 E3 B4 HM4 M4
        generalize w6.drewN nd = w7 at *
        obtain ⟨r0, r1, r2, hrq⟩ := rqAt_agg ks4 t.k
        have HRQ := Lib.hid hrq
        clear hrq
        go_wp2_with fail
        refine (flOf t.k b M x y z ks4 w7 HKI.out B7.out.two.t).mono ?_; rw [HRQ.out]; rintro e w8 ⟨rfl, m8⟩
        have B8 := Lib.hid (B7.out.new m8)
        have s0 := m8.cell q0 (fun h => h); have s1 := m8.cell q1 (fun h => h); have s2 := m8.cell q2 (fun h => h); have s3 := m8.cell q3 (fun h => h)
        have M8 := Lib.hid (M7.out.trans m8)
        clear q0 q1 q2 q3 m8 M7
        have ma := (Mod.refl (fun _ => False) w8).alloc (.cells #[.int .i64 r0, .int .i64 r1, .int .i64 r2] TRq)
        have sa2 := ma.cell s2 (fun h => h)
        go_wp2_with fail
        clear sa2
        have XA := Lib.hid (Blk.new w8 #[.int .i64 r0, .int .i64 r1, .int .i64 r2] TRq)
        have BA := Lib.hid (B8.out.new ma)
        obtain ⟨w9, hw9⟩ : ∃ w9, w9 = w8.alloc (.cells #[.int .i64 r0, .int .i64 r1, .int .i64 r2] TRq) := ⟨_, rfl⟩
        rw [← hw9] at ma XA BA ⊢
        have z9 : w8.heap.size < w9.heap.size := XA.out.lt
        have M9 := Lib.hid (M8.out.trans ma)
        clear hw9
        refine (refOf t.k b' (b' + 1) x y z ks4 w9 BA.out.two.r (by omega) BA.out.ok.rising).mono ?_; rw [HRQ.out]; rintro e w10 ⟨rfl, m10⟩
        have B10 := Lib.hid (BA.out.new m10)
        have v0 := (ma.trans m10).cell s0 (fun h => h); have v1 := (ma.trans m10).cell s1 (fun h => h); have v2 := (ma.trans m10).cell s2 (fun h => h); have v3 := (ma.trans m10).cell s3 (fun h => h)
        have X10 := Lib.hid (XA.out.mod m10 (fun h => h))
        have M10 := Lib.hid (M9.out.trans m10)
        have y0 := X10.out.cell 0; have y1 := X10.out.cell 1; have y2 := X10.out.cell 2
        have z10 : w8.heap.size < w10.heap.size := X10.out.lt
        clear ma m10 s0 s1 s2 s3 M9 M8 BA B8 B7
        have mb := (Mod.refl (fun _ => False) w10).alloc (.cells #[.int .i64 r0, .int .i64 r1, .int .i64 r2] TRq)
        go_wp2_with fail
        have XB := Lib.hid (Blk.new w10 #[.int .i64 r0, .int .i64 r1, .int .i64 r2] TRq)
        have XC := Lib.hid (X10.out.mod mb (fun h => h))
        have BB := Lib.hid (B10.out.new mb)
        have i0 := mb.cell v0 (fun h => h); have i1 := mb.cell v1 (fun h => h); have i2 := mb.cell v2 (fun h => h); have i3 := mb.cell v3 (fun h => h)
        have MB := Lib.hid (M10.out.trans mb)
        obtain ⟨B9, hB9⟩ : ∃ B, B = w8.heap.size := ⟨_, rfl⟩
        obtain ⟨B11, hB11⟩ : ∃ B, B = w10.heap.size := ⟨_, rfl⟩
        obtain ⟨w11, hw11⟩ : ∃ w11, w11 = w10.alloc (.cells #[.int .i64 r0, .int .i64 r1, .int .i64 r2] TRq) := ⟨_, rfl⟩
        rw [← hw11] at XB XC BB MB i0 i1 i2 i3 ⊢
        rw [← hB9] at XC ⊢
        rw [← hB11] at XB ⊢
        have j0 := XC.out.cell 0; have j1 := XC.out.cell 1; have j2 := XC.out.cell 2
        have l0 := XB.out.cell 0; have l1 := XB.out.cell 1; have l2 := XB.out.cell 2
        have hmy := many_le ks4 t.p
        clear mb hw11 hB9 hB11 v0 v1 v2 v3 X10 B10 M10 y0 y1 y2 z10 z9
        refine wp_regionO2 [0, 1, 2, 3, 4, 5, 6, 7, 8, 9, 10, 11, 12, 13, 14, 15, 16, 17, 18, 19, 20, 21, 22, 24, 25, 26, 27, 28, 29, 23, 30, 31, 32] [(28, 3), (29, 4)] [17] (by kernel_rfl) (by kernel_rfl) (by simp only [List.filterMap_cons, List.filterMap_nil, List.getElem?_cons_zero, List.getElem?_cons_succ]; exact rfl) ?_
        repeat (first | (refine reg_anyT (by rfl) (fun K hK => ?_); go_simp; refine hK _ _ ?_; clear hK K) | (refine reg_read (by rfl) (fun K hK => ?_); go_simp; refine hK _ _ ?_; clear hK K))
        refine reg_hold_v (by rfl) (by rfl) (.int .i64 t.p) (fun w' hw' => q_load _ _ _ rfl rfl Try.isAgg3 (hw'.cell i1)) ?_
        repeat (first | (refine reg_anyT (by rfl) (fun K hK => ?_); go_simp; refine hK _ _ ?_; clear hK K) | (refine reg_read (by rfl) (fun K hK => ?_); go_simp; refine hK _ _ ?_; clear hK K))
        refine reg_new (by rfl) (fun rn K hK => ?_); go_simp
        refine (flMany t.p b M x y z ks4 _ (BB.out.two.t.drewN rn) (by omega)).mono ?_; rintro e w' ⟨rfl, m12⟩
        refine hK _ _ ⟨m12.ex, ?_⟩; clear hK K
        repeat (first | (refine reg_anyT (by rfl) (fun K hK => ?_); go_simp; refine hK _ _ ?_; clear hK K) | (refine reg_read (by rfl) (fun K hK => ?_); go_simp; refine hK _ _ ?_; clear hK K))
        have B12 := Lib.hid (BB.out.new m12.undrew)
        refine reg_read (by rfl) (fun K hK => ?_); go_simp
        refine ⟨_, fun rn => rd_same (refMany t.p b' (b' + 1) x y z ks4 _ (B12.out.two.r.drewN rn) (by omega)), hK _ _ ?_⟩; clear hK K
        repeat (first | (refine reg_anyT (by rfl) (fun K hK => ?_); go_simp; refine hK _ _ ?_; clear hK K) | (refine reg_read (by rfl) (fun K hK => ?_); go_simp; refine hK _ _ ?_; clear hK K))
        refine reg_nil (fun nd => ?_)
        have M12 := Lib.hid ((MB.out.trans m12.undrew).drewN nd)
        have B13 := Lib.hid (B12.out.new ((Mod.refl _ _).drewN nd))
        clear m12 B12 i0 i1 i2 i3 j0 j1 j2 l0 l1 l2
        go_wp2_with fail
        exact ⟨⟨k + 1, ks4, by go_num, by omega, by omega, B13, M12.out⟩, by simp [intOf]; omega⟩
      · have hend : (k : Int) < len1 → ¬ (k : Int) < 150 := by omega
        by_cases h6 : (k : Int) < len1
        · have h7 : ¬ (k : Int) < 150 := hend h6
          clear hend
          go_wp2_with fail
          go_ret
          exact ⟨rfl, hm⟩
        · clear hend
          go_wp2_with fail
          go_ret
          exact ⟨rfl, hm⟩
  · have HOK := Lib.hid hok
    clear hok
    go_enter Try.func3, Try.ntmps3
    go_wp2_with fail
    rw [← HW0.out]
    refine (awake16 w0).mono ?_; rintro e w1 ⟨rfl, m1⟩
    have X1 := Lib.hid (X0.out.mod m1 (fun h => h))
    have M1 := Lib.hid (MX.out.trans m1)
    have c0 := X1.out.cell 0; have c1 := X1.out.cell 1; have c2 := X1.out.cell 2
    clear m1
    go_wp2_with fail
    refine (flNewBad x y z _ HOK.out).mono ?_; rintro e w' ⟨rfl, rfl⟩
    go_wp2_with fail
    refine (refNewBad x y z _ HOK.out).mono ?_; rintro e w' ⟨rfl, rfl⟩
    go_wp2_with fail
    go_loopw [10] (fun v wr => v = .int .i64 0 ∧ wr = w1) (fun _ _ => 0)
    case atStart => exact ⟨rfl, rfl⟩
    case round =>
      obtain ⟨rfl, rfl⟩ := hrel
      by_cases h6 : (0 : Int) < len1
      · go_wp2_with fail
        go_ret
        exact ⟨rfl, M1.out⟩
      · go_wp2_with fail
        go_ret
        exact ⟨rfl, M1.out⟩
end Go.Proofs.Ytfdmamaldgpbaaa
