/- The walk of the statement RarestTurned, its code; no condition but the table. -/
import Derived.Test.YtegmgflplhpacaaDoorRwT
namespace Go.Proofs.YtegmgflplhpacaaDoor
open Go Go.RowKit

set_option maxRecDepth 100000 in
set_option maxHeartbeats 4000000 in
theorem rarestTurned_walk (p : Int) (a1 : Option Addr) (len1 cap1 : Nat) (l : List By) (seed : Int) (w : World) (hT : TabW w) (_ : (Lit.int .i64 p).wf = true) (hl : IsBss w a1 len1 l) (_ : (Lit.int .u64 seed).wf = true) :
    Calls Tryd.prog 3 #[.int .i64 p, .slice a1 len1 cap1, .int .u64 seed] w fun e w' => e = .returned (.bool true) ∧ Below w.heap.size w w' := by
  refine Calls.mono (R := fun e w' => e = .returned (.bool true) ∧ Mod (fun _ => False) w w') ?_ (fun e w' ⟨h1, h2⟩ => ⟨h1, h2.bel⟩)
  have HL := Lib.hid hl
  have HT := Lib.hid hT
  have HAW := Lib.hid (awake13 w hT)
  have hll : (len1 : Int) ≤ 9223372036854775807 := hl.2.1
  clear hl hT
  by_cases hp1 : p < 1
  · go_enter Tryd.func3, Tryd.ntmps3
    go_wp2_with fail
    refine HAW.out.mono ?_; rintro e w1 ⟨rfl, m1⟩
    go_wp2_with fail
    go_ret
    exact ⟨rfl, m1⟩
  · by_cases hp2 : 100 < p
    · go_enter Tryd.func3, Tryd.ntmps3
      go_wp2_with fail
      refine HAW.out.mono ?_; rintro e w1 ⟨rfl, m1⟩
      go_wp2_with fail
      go_ret
      exact ⟨rfl, m1⟩
    · by_cases hp3 : 40 < (len1 : Int)
      · go_enter Tryd.func3, Tryd.ntmps3
        go_wp2_with fail
        refine HAW.out.mono ?_; rintro e w1 ⟨rfl, m1⟩
        go_wp2_with fail
        go_ret
        exact ⟨rfl, m1⟩
      · obtain ⟨n, rfl⟩ : ∃ n : Nat, p = (n : Int) := ⟨p.toNat, by omega⟩
        have hn : 1 ≤ n ∧ n ≤ 100 := by omega
        have hl40 : len1 ≤ 40 := by omega
        go_enter Tryd.func3, Tryd.ntmps3
        go_wp2_with fail
        refine HAW.out.mono ?_; rintro e w1 ⟨rfl, m1⟩
        have M1 := Lib.hid m1
        have HT1 := Lib.hid (HT.out.mod m1 (fun h => h))
        clear m1 HAW
        have HRN := Lib.hid (rareNew n 64 w1 (by unfold BoardOk; omega) HT1.out)
        go_wp2_with fail
        refine HRN.out.mono ?_; rintro e w2 ⟨rfl, h2, m2, z2⟩
        obtain ⟨ba, hba⟩ : ∃ b, b = w1.heap.size + 2 := ⟨_, rfl⟩
        obtain ⟨Ma, hMa⟩ : ∃ b, b = w1.heap.size := ⟨_, rfl⟩
        obtain ⟨ga, hga⟩ : ∃ b, b = w1.heap.size + 1 := ⟨_, rfl⟩
        rw [← hba, ← hga, ← hMa] at h2
        rw [← hba]
        have HWA : Hid (w.heap.size ≤ Ma ∧ w.heap.size ≤ ga) := by have := M1.out.size; show _ ∧ _; omega
        have HA2 := Lib.hid h2
        have M2 := Lib.hid (M1.out.trans m2)
        have HT2 := Lib.hid (HT.out.mod M2.out (fun h => h))
        clear hba hMa hga h2 m2 z2 HRN M1 HT1
        have HRN := Lib.hid (rareNew n 64 w2 (by unfold BoardOk; omega) HT2.out)
        go_wp2_with fail
        refine HRN.out.mono ?_; rintro e w3 ⟨rfl, h3, m3, z3⟩
        obtain ⟨bb, hbb⟩ : ∃ b, b = w2.heap.size + 2 := ⟨_, rfl⟩
        obtain ⟨Mb, hMb⟩ : ∃ b, b = w2.heap.size := ⟨_, rfl⟩
        obtain ⟨gb, hgb⟩ : ∃ b, b = w2.heap.size + 1 := ⟨_, rfl⟩
        have hlow : ∀ i, BDb ba Ma ga [] i → i < w2.heap.size := fun i hi => HA2.out.lt hi
        have HAB := Lib.hid (show ApartO ba Ma ga [] Mb gb from fun i hi => by have := hlow i hi; omega)
        have HBA : Hid (ApartO bb Mb gb [] Ma ga) := by
          intro i hi
          have := hlow Ma (.inr (.inl rfl))
          have := hlow ga (.inr (.inr (.inl rfl)))
          rcases hi with rfl | rfl | rfl | ⟨q, hq, _⟩
          · omega
          · omega
          · omega
          · simp at hq
        rw [← hbb, ← hgb, ← hMb] at h3
        rw [← hbb]
        have HWB : Hid (w.heap.size ≤ Mb ∧ w.heap.size ≤ gb) := by have := M2.out.size; show _ ∧ _; omega
        have SD0 := Lib.hid (show Side w3 ba Ma ga bb Mb gb n 64 (fun _ => 0) (fun _ => 0) [] [] from ⟨HA2.out.new m3, h3, HAB.out, HBA.out⟩)
        have M3 := Lib.hid (M2.out.trans m3)
        clear hbb hMb hgb h3 m3 z3 HRN M2 HT2 HA2 HAB HBA hlow
        obtain ⟨fB, hfB⟩ : ∃ fB : Nat → Nat → Bool, fB = fun i => F13 n (l.getD i default).bs := ⟨_, rfl⟩
        have HFB := Lib.hid hfB
        have HFO : Hid (∀ i j, n ≤ j → fB i j = false) := by intro i j hj; rw [hfB]; exact F13_out n _ hj
        have SD := Lib.hid (show Side w3 ba Ma ga bb Mb gb n 64 (csA fB 0) (csB fB len1 0) [] [] from SD0.out)
        clear hfB SD0
        go_wp2_with fail
        go_loopw [12] (fun v wr => ∃ (k : Nat) (ka kb : List (Int × Ow)), v = .int .i64 k ∧ k ≤ len1 ∧ Hid (Side wr ba Ma ga bb Mb gb n 64 (csA fB k) (csB fB len1 k) ka kb) ∧ Hid (Knows fB 0 k ka ∧ Knows fB (len1 - k) len1 kb) ∧ Hid (Mod (fun _ => False) w wr)) (fun v _ => len1 - (intOf v).toNat)
        case atStart => exact ⟨0, [], [], rfl, Nat.zero_le _, SD, ⟨⟨fun i h1 h2 => by omega, fun i _ => rfl, Nat.zero_le _⟩, ⟨fun i h1 h2 => by omega, fun i _ => rfl, Nat.zero_le _⟩⟩, M3⟩
        case round =>
          obtain ⟨k, ka, kb, rfl, hk, hS, hK, hm⟩ := hrel
          have HTr := Lib.hid (HT.out.mod hm.out (fun h => h))
          by_cases hlt : (k : Int) < len1
          · obtain ⟨t, ht⟩ : ∃ t, l[k]? = some t := ⟨_, List.getElem?_eq_getElem (by rw [HL.out.1]; omega)⟩
            obtain ⟨j, hj⟩ : ∃ j, j = len1 - 1 - k := ⟨_, rfl⟩
            obtain ⟨t2, ht2⟩ : ∃ t, l[j]? = some t := ⟨_, List.getElem?_eq_getElem (by rw [HL.out.1]; omega)⟩
            obtain ⟨⟨X, rfl, c0⟩, hsl, hb⟩ := (HL.out.new hm.out).2.2 k t ht
            have HFK : Hid (F13 n t.bs = fB k) := by show _ = _; rw [HFB.out]; show _ = F13 n (l.getD k default).bs; rw [List.getD_eq_getElem?_getD, ht]; rfl
            have HFJ : Hid (F13 n t2.bs = fB j) := by show _ = _; rw [HFB.out]; show _ = F13 n (l.getD j default).bs; rw [List.getD_eq_getElem?_getD, ht2]; rfl
            have HS1 := Lib.hid (setsOk n t.a t.len t.cap t.bs wr (by omega) hsl hb)
            rw [HFK.out] at HS1
            have HT2 := Lib.hid ht2
            have HJE := Lib.hid hj
            have hji : (len1 : Int) - 1 - (k : Int) = (j : Int) := by omega
            have hji2 : (len1 : Int) - (k : Int) = (j : Int) + 1 := by omega
            have hjl : (j : Int) < len1 := by omega
            have hjl2 : j < len1 := by omega
            have hkl2 : k < len1 := by omega
            have hw0 : IntKind.i64.wrap ((len1 : Int) - 1) = (len1 : Int) - 1 := by unfold IntKind.wrap; simp [IntKind.bits, IntKind.signed]; omega
            have hw1 : IntKind.i64.wrap (j : Int) = (j : Int) := by unfold IntKind.wrap; simp [IntKind.bits, IntKind.signed]; omega
            have hw2 : IntKind.i64.wrap ((j : Int) + 1) = (j : Int) + 1 := by unfold IntKind.wrap; simp [IntKind.bits, IntKind.signed]; omega
            have hw3 : IntKind.i64.wrap ((k : Int) + 1) = (k : Int) + 1 := by unfold IntKind.wrap; simp [IntKind.bits, IntKind.signed]; omega
            clear ht ht2 hsl hb hj
            go_wp2_with fail
            refine HS1.out.mono ?_; rintro e w4 ⟨s1, g1, r1, q1, rfl, b4, _, m4, l4, _⟩
            have X4 := Lib.hid b4
            have S4 := Lib.hid (hS.out.new m4)
            have M4 := Lib.hid (hm.out.trans m4)
            have AP4 := Lib.hid (show ApartO ba Ma ga ka s1 g1 ∧ ApartO bb Mb gb kb s1 g1 from ⟨ApartO.fresh hS.out.l l4.1 l4.2.1, ApartO.fresh hS.out.r l4.1 l4.2.1⟩)
            obtain ⟨⟨X', hX', c1⟩, hsl, hb⟩ := (HL.out.new M4.out).2.2 j t2 HT2.out
            cases hX'
            have HS2 := Lib.hid (setsOk n t2.a t2.len t2.cap t2.bs w4 (by omega) hsl hb)
            rw [HFJ.out] at HS2
            clear b4 m4 l4 hsl hb c0 HS1 hS hm HTr
            go_wp2_with fail
            refine HS2.out.mono ?_; rintro e w5 ⟨s2, g2, r2, q2, rfl, b5, _, m5, l5, _⟩
            have Y5 := Lib.hid b5
            have X5 := Lib.hid (X4.out.mod m5 (fun h => h) (fun h => h))
            have S5 := Lib.hid (S4.out.new m5)
            have M5 := Lib.hid (M4.out.trans m5)
            have AP5 := Lib.hid (show ApartO ba Ma ga ka s2 g2 ∧ ApartO bb Mb gb kb s2 g2 from ⟨ApartO.fresh S4.out.l l5.1 l5.2.1, ApartO.fresh S4.out.r l5.1 l5.2.1⟩)
            have HT5 := Lib.hid (HT.out.mod M5.out (fun h => h))
            clear b5 m5 l5 c1 HS2 X4 S4 M4
            have hlA := hK.out.1.len
            have hlB := hK.out.2.len
            have HA := Lib.hid (rareSetNew ((k : Int) + 1) s1 g1 ba Ma ga n 64 _ ka (fB k) w5 S5.out.l X5.out HT5.out AP4.out.1 (by omega) (fun q => by have := sm_bd (gI_bd fB q) k; unfold csA; omega) (by omega) (by omega) (hK.out.1.no k (.inr (Nat.le_refl _))) (by omega))
            rw [csA_step HFO.out] at HA
            go_wp2_with fail
            refine HA.out.mono ?_; rintro e w6 ⟨x6, y6, rfl, h6, m6, lx, ly⟩
            have S6 := Lib.hid (S5.out.left h6 m6 lx ly)
            have hap := AP5.out.1
            have Y6 := Lib.hid (Y5.out.mod m6 (by have := hap Ma (.inr (.inl rfl)); have := hap ga (.inr (.inr (.inl rfl))); omega) (by have := hap Ma (.inr (.inl rfl)); have := hap ga (.inr (.inr (.inl rfl))); omega))
            have M6 := Lib.hid (M5.out.new m6 (by intro i hi; have := HWA.out; omega))
            have HT6 := Lib.hid (HT.out.mod M6.out (fun h => h))
            have KA := Lib.hid (hK.out.1.up (Nat.zero_le _) x6 y6)
            clear h6 m6 lx ly hap HA X5 S5 M5 HT5 Y5
            have HA := Lib.hid (rareSetNew ((j : Int) + 1) s2 g2 bb Mb gb n 64 _ kb (fB j) w6 S6.out.r Y6.out HT6.out AP5.out.2 (by omega) (fun q => by have := sm_bd (g := fun i => gI fB q (len1 - 1 - i)) (fun i => gI_bd fB q _) k; unfold csB; omega) (by omega) (by omega) (hK.out.2.no j (.inl (by have := HJE.out; omega))) (by omega))
            rw [show fB j = fB (len1 - 1 - k) by rw [← HJE.out], csB_step HFO.out, show fB (len1 - 1 - k) = fB j by rw [← HJE.out]] at HA
            go_wp2_with fail
            refine HA.out.mono ?_; rintro e w7 ⟨x7, y7, rfl, h7, m7, lx, ly⟩
            have S7 := Lib.hid (S6.out.right h7 m7 lx ly)
            have M7 := Lib.hid (M6.out.new m7 (by intro i hi; have := HWB.out; omega))
            have KB : Hid (Knows fB (len1 - (k + 1)) len1 (putL kb ((j : Int) + 1) ⟨x7, y7, fB j⟩)) := by
              have hkb := hK.out.2
              have hje := HJE.out
              rw [show len1 - k = j + 1 by omega] at hkb
              rw [show len1 - (k + 1) = j by omega]
              exact hkb.down (by omega) x7 y7
            clear h7 m7 lx ly HA S6 M6 HT6 Y6
            go_wp2_with fail
            exact ⟨⟨k + 1, _, _, by go_num, by omega, S7, ⟨KA.out, KB.out⟩, M7⟩, by simp [intOf]; omega⟩
          · have hkn : k = len1 := by omega
            have hS2 := hS.out
            have hK2 := hK.out
            rw [hkn, Nat.sub_self] at hK2
            rw [hkn, cs_eq] at hS2
            have SF := Lib.hid hS2
            have KF := Lib.hid hK2
            have MF := Lib.hid hm.out
            clear hS2 hK2 hS hK hm hkn
            obtain ⟨w4, hw4⟩ : ∃ w4, w4 = wr := ⟨_, rfl⟩
            rw [← hw4] at SF MF HTr ⊢
            clear hw4
            have HS3 := Lib.hid (setsOk n none 0 0 [] w4 (by omega) (Sl.nil _ _) (by simp))
            obtain ⟨f0, hf0⟩ : ∃ f, f = F13 n [] := ⟨_, rfl⟩
            rw [← hf0] at HS3
            obtain ⟨cc, hcc⟩ : ∃ c, c = csA fB len1 := ⟨_, rfl⟩
            rw [← hcc] at SF
            clear hf0 hcc
            go_wp2_with fail
            refine HS3.out.mono ?_; rintro e w5 ⟨s3, g3, r3, q3, rfl, b5, _, m5, _, _⟩
            have X5 := Lib.hid b5
            have S5 := Lib.hid (SF.out.new m5)
            have M5 := Lib.hid (MF.out.trans m5)
            clear b5 m5 HS3 SF MF HTr
            go_wp2_with fail
            go_loopw [19] (fun v wx => ∃ i : Nat, v = .int .i64 i ∧ i ≤ len1 ∧ Hid (Mod (fun _ => False) w5 wx)) (fun v _ => len1 - (intOf v).toNat)
            case atStart => exact ⟨0, rfl, Nat.zero_le _, Mod.refl _ _⟩
            case round =>
              obtain ⟨i, rfl, hi, hm2⟩ := hrel
              have SX := Lib.hid (S5.out.new hm2.out)
              have XX := Lib.hid (X5.out.mod hm2.out (fun h => h) (fun h => h))
              have MX := Lib.hid (M5.out.trans hm2.out)
              have HTX := Lib.hid (HT.out.mod MX.out (fun h => h))
              by_cases hlt2 : (i : Int) < len1
              · obtain ⟨oa, hoa, hfa⟩ := KF.out.1.yes i (Nat.zero_le _) (by omega)
                obtain ⟨ob, hob, hfb⟩ := KF.out.2.yes i (Nat.zero_le _) (by omega)
                have hI := i64_of (k := (i : Int) + 1) (by omega) (by omega)
                have HPA := Lib.hid (rarePick ((i : Int) + 1) seed oa s3 g3 ba Ma ga n 64 cc _ f0 wr SX.out.l XX.out HTX.out hI hoa (by omega))
                have HOB := Lib.hid hob
                have HFE : Hid (ob.f = oa.f) := hfb.trans hfa.symm
                have HI := Lib.hid hI
                have hw3 : IntKind.i64.wrap ((i : Int) + 1) = (i : Int) + 1 := by unfold IntKind.wrap; simp [IntKind.bits, IntKind.signed]; omega
                have hil2 : i < len1 := by omega
                obtain ⟨R, hR⟩ : ∃ R, R = pickR cc (fLess oa.f f0) n seed := ⟨_, rfl⟩
                rw [← hR] at HPA
                have HRE := Lib.hid hR
                clear hoa hfa hob hfb hI hR
                go_wp2_with fail
                refine HPA.out.mono ?_; rintro e w7 ⟨rfl, m7⟩
                have M27 := Lib.hid (hm2.out.trans m7)
                have SY := Lib.hid (SX.out.new m7)
                have XY := Lib.hid (XX.out.mod m7 (fun h => h) (fun h => h))
                have HTY := Lib.hid (HTX.out.mod m7 (fun h => h))
                have HPB := Lib.hid (rarePick ((i : Int) + 1) seed ob s3 g3 bb Mb gb n 64 cc _ f0 w7 SY.out.r XY.out HTY.out HI.out HOB.out (by omega))
                rw [HFE.out, ← HRE.out] at HPB
                clear m7 HPA
                go_wp2_with fail
                refine HPB.out.mono ?_; rintro e w8 ⟨rfl, m8⟩
                have M28 := Lib.hid (M27.out.trans m8)
                clear m8
                go_wp2_with fail
                exact ⟨⟨i + 1, by go_num, by omega, M28⟩, by simp [intOf]; omega⟩
              · obtain ⟨w6, hw6⟩ : ∃ w6, w6 = wr := ⟨_, rfl⟩
                rw [← hw6] at SX MX ⊢
                clear hw6
                go_wp2_with fail
                go_loopw [20] (fun v wx => ∃ i : Nat, v = .int .i64 i ∧ i ≤ n ∧ Hid (Mod (fun _ => False) w6 wx)) (fun v _ => n - (intOf v).toNat)
                case atStart => exact ⟨0, rfl, Nat.zero_le _, Mod.refl _ _⟩
                case round =>
                  obtain ⟨q, rfl, hq, hm3⟩ := hrel
                  have SZ := Lib.hid (SX.out.new hm3.out)
                  have MZ := Lib.hid (MX.out.trans hm3.out)
                  by_cases hlt3 : (q : Int) < n
                  · have H1 := Lib.hid (rareHow (q : Int) ba Ma ga n 64 cc _ wr SZ.out.l)
                    have H2 := Lib.hid (rareHow (q : Int) bb Mb gb n 64 cc _ wr SZ.out.r)
                    obtain ⟨R, hR⟩ : ∃ R, R = cntR cc n (q : Int) := ⟨_, rfl⟩
                    rw [← hR] at H1 H2
                    clear hR
                    go_wp2_with fail
                    refine H1.out.mono ?_; rintro e w7 ⟨rfl, rfl⟩
                    go_wp2_with fail
                    refine H2.out.mono ?_; rintro e w8 ⟨rfl, rfl⟩
                    go_wp2_with fail
                    exact ⟨⟨q + 1, by go_num, by omega, hm3⟩, by simp [intOf]; omega⟩
                  · go_wp2_with fail
                    go_ret
                    exact ⟨rfl, MZ.out⟩
end Go.Proofs.YtegmgflplhpacaaDoor
