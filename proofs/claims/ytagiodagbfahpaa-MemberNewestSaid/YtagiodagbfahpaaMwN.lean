/- The walk of the statement MemberNewest: the call returns true and turns nothing that was there; no condition. -/
import Derived.Test.YtagiodagbfahpaaMcN
namespace Go.Proofs.Ytagiodagbfahpaa
open Go Go.RowKit

set_option maxRecDepth 100000 in
set_option maxHeartbeats 4000000 in
theorem memberNewest_walk (a1 : Option Addr) (len1 cap1 : Nat) (l : List (Int × Rc)) (w : World) (hl : IsMems w a1 len1 l) :
    Calls Try.prog 3 #[.slice a1 len1 cap1] w fun e w' => e = .returned (.bool true) ∧ Below w.heap.size w w' := by
  refine Calls.mono (R := fun e w' => e = .returned (.bool true) ∧ Mod (fun _ => False) w w') ?_ (fun e w' ⟨h1, h2⟩ => ⟨h1, h2.bel⟩)
  have HL := Lib.hid hl
  have hll : (len1 : Int) ≤ 9223372036854775807 := hl.2.1
  clear hl
  go_enter Try.func3, Try.ntmps3
  go_wp2_with fail
  refine (awake12 _).mono ?_; rintro e w1 ⟨rfl, m1⟩
  have M1 := Lib.hid m1
  clear m1
  go_wp2_with fail
  refine (memNew 65536 64 _ (by decide)).mono ?_; rintro e w2 ⟨rfl, va, m2, s2⟩
  have VA := Lib.hid va
  have M2 := Lib.hid (M1.out.trans m2)
  clear va m2
  go_wp2_with fail
  refine (memNew 65536 64 _ (by decide)).mono ?_; rintro e w3 ⟨rfl, vb, m3, s3⟩
  have VB := Lib.hid vb
  have VA3 := Lib.hid (VA.out.new m3)
  have M3 := Lib.hid (M2.out.trans m3)
  clear vb m3
  obtain ⟨ba, hba⟩ : ∃ b, b = w1.heap.size + 1 := ⟨_, rfl⟩
  obtain ⟨Ma, hMa⟩ : ∃ b, b = w1.heap.size := ⟨_, rfl⟩
  obtain ⟨bb, hbb⟩ : ∃ b, b = w2.heap.size + 1 := ⟨_, rfl⟩
  obtain ⟨Mb, hMb⟩ : ∃ b, b = w2.heap.size := ⟨_, rfl⟩
  have hz := M1.out.size
  have HN : Hid (w.heap.size ≤ ba ∧ w.heap.size ≤ Ma ∧ w.heap.size ≤ bb ∧ w.heap.size ≤ Mb ∧ ba ≠ bb ∧ ba ≠ Mb ∧ Ma ≠ bb ∧ Ma ≠ Mb) := by
    show _ ∧ _ ∧ _ ∧ _ ∧ _ ∧ _ ∧ _ ∧ _
    omega
  rw [← hba, ← hMa] at VA3
  rw [← hbb, ← hMb] at VB
  rw [← hba, ← hbb]
  clear hba hMa hbb hMb s2 s3 hz VA M2 M1
  by_cases hlen : 60 < (len1 : Int)
  · go_wp2_with fail
    go_ret
    exact ⟨rfl, M3.out⟩
  · go_wp2_with fail
    go_loopw [8] (fun v wr => ∃ (k : Nat) (Sa Sb : Int × Rc) (ka kb : List (Int × Rc)), v = .int .i64 k ∧ k ≤ len1 ∧ Hid (VW wr ba Ma Sa 64 ka ∧ VW wr bb Mb Sb 64 kb ∧ OkV 64 ka ∧ OkV 64 kb ∧ Sa.1 = 65536 ∧ Sb.1 = 65536) ∧ Hid (Heard (l.take k) ka ∧ Heard (l.reverse.take k) kb ∧ ∀ m ∈ l.take k, m.1 ≠ 65536 ∧ m.2.u ≠ 3) ∧ Mod (fun _ => False) w wr) (fun v _ => len1 - (intOf v).toNat)
    case atStart => exact ⟨0, _, _, [], [], rfl, Nat.zero_le _, ⟨VA3.out, VB.out, OkV.nil _ (by decide), OkV.nil _ (by decide), rfl, rfl⟩, ⟨by simpa using Heard.nil, by simpa using Heard.nil, by simp⟩, M3.out⟩
    case round =>
      obtain ⟨k, Sa, Sb, ka, kb, rfl, hk, hV, hH, hm⟩ := hrel
      by_cases hlt : (k : Int) < len1
      · obtain ⟨t, ht⟩ : ∃ t, l[k]? = some t := ⟨_, List.getElem?_eq_getElem (by rw [HL.out.1]; omega)⟩
        obtain ⟨j, hj⟩ : ∃ j, j = len1 - 1 - k := ⟨_, rfl⟩
        obtain ⟨t2, ht2⟩ : ∃ t, l[j]? = some t := ⟨_, List.getElem?_eq_getElem (by rw [HL.out.1]; omega)⟩
        obtain ⟨hki, X, rfl, c0, c1, c2, c3⟩ := (HL.out.new hm).2.2 k t ht
        have HKI := Lib.hid hki
        have hrv : l.reverse[k]? = some t2 := by
          rw [List.getElem?_reverse (by rw [HL.out.1]; omega), HL.out.1, ← hj]
          exact ht2
        have HTA := Lib.hid (show l.take (k + 1) = l.take k ++ [t] by rw [List.take_add_one, ht]; rfl)
        have HTB := Lib.hid (show l.reverse.take (k + 1) = l.reverse.take k ++ [t2] by rw [List.take_add_one, hrv]; rfl)
        have HT2 := Lib.hid ht2
        have hji : (len1 : Int) - 1 - (k : Int) = (j : Int) := by omega
        have hjl : (j : Int) < len1 := by omega
        have hjl2 : j < len1 := by omega
        have hkl2 : k < len1 := by omega
        have hl60 : len1 ≤ 60 := by omega
        have hw1 : IntKind.i64.wrap ((len1 : Int) - 1) = (len1 : Int) - 1 := by unfold IntKind.wrap; simp [IntKind.bits, IntKind.signed]; omega
        have hw2 : IntKind.i64.wrap (j : Int) = (j : Int) := by unfold IntKind.wrap; simp [IntKind.bits, IntKind.signed]; omega
        have hla : (l.take k).length < 64 := by rw [List.length_take]; omega
        have hlb : (l.reverse.take k).length < 64 := by rw [List.length_take]; omega
        have HLA := Lib.hid hla
        have HLB := Lib.hid hlb
        have HM := Lib.hid hm
        clear ht ht2 hki hj hrv hla hlb hm
        by_cases g1 : t.1 = 65536
        · have g1' : (t.1 == 65536) = true := by simpa using g1
          clear g1
          go_wp2_with fail
          go_ret
          exact ⟨rfl, HM.out⟩
        · have g1' : (t.1 == 65536) = false := by simpa using g1
          have G1 := Lib.hid g1
          clear g1
          by_cases g2 : t.2.u = 3
          · have g2' : (t.2.u == 3) = true := by simpa using g2
            clear g2
            go_wp2_with fail
            go_ret
            exact ⟨rfl, HM.out⟩
          · have g2' : (t.2.u == 3) = false := by simpa using g2
            have G2 := Lib.hid g2
            have HA := Lib.hid (memHear t 1 ba Ma Sa 64 ka wr hV.out.1 hV.out.2.2.1 (by decide))
            unfold rcv at HA
            clear g2
            go_wp2_with fail
            refine HA.out.mono ?_; rintro e w4 ⟨rfl, v4, m4⟩
            have VA4 := Lib.hid v4
            have VB4 := Lib.hid (hV.out.2.1.mod m4 (by have := HN.out; omega) (by have := HN.out; omega))
            have hm4 := HM.out.new m4 (by intro i hi; have := HN.out; omega)
            have HM4 := Lib.hid hm4
            obtain ⟨_, X', hX', d0, d1, d2, d3⟩ := (HL.out.new hm4).2.2 j t2 HT2.out
            cases hX'
            have HB := Lib.hid (memHear t2 1 bb Mb Sb 64 kb w4 VB4.out hV.out.2.2.2.1 (by decide))
            unfold rcv at HB
            clear v4 m4 hm4 c0 c1 c2 c3
            go_wp2_with fail
            refine HB.out.mono ?_; rintro e w5 ⟨rfl, v5, m5⟩
            have VA5 := Lib.hid (VA4.out.mod m5 (by have := HN.out; omega) (by have := HN.out; omega))
            have HM5 := Lib.hid (HM4.out.new m5 (by intro i hi; have := HN.out; omega))
            have VB5 := Lib.hid v5
            have h1 := Lib.hid (hH.out.1.step (S := Sa) hV.out.2.2.2.2.1 HLA.out t)
            have h2 := Lib.hid (hH.out.2.1.step (S := Sb) hV.out.2.2.2.2.2 HLB.out t2)
            have h3 : Hid (∀ m ∈ l.take (k + 1), m.1 ≠ 65536 ∧ m.2.u ≠ 3) := by
              intro m hm
              rw [HTA.out] at hm
              rcases List.mem_append.1 hm with hm | hm
              · exact hH.out.2.2 m hm
              · simp at hm; subst hm; exact ⟨G1.out, G2.out⟩
            clear v5 m5 d0 d1 d2 d3
            go_wp2_with fail
            refine ⟨⟨k + 1, hearSelf Sa t 1, hearSelf Sb t2 1, hearK Sa 64 ka t 1, hearK Sb 64 kb t2 1, by go_num, by omega, ⟨VA5.out, VB5.out, hV.out.2.2.1.hearK _ _ _, hV.out.2.2.2.1.hearK _ _ _, ?_, ?_⟩, ⟨?_, ?_, h3.out⟩, HM5.out⟩, by simp [intOf]; omega⟩
            · rw [hearSelf_id]; exact hV.out.2.2.2.2.1
            · rw [hearSelf_id]; exact hV.out.2.2.2.2.2
            · rw [HTA.out]; exact h1.out
            · rw [HTB.out]; exact h2.out
      · have hkn : k = len1 := by omega
        have hA := hH.out.1
        have hB := hH.out.2.1
        have hG := hH.out.2.2
        rw [hkn, ← HL.out.1, List.take_length] at hA hG
        rw [hkn, ← HL.out.1, show l.length = l.reverse.length by simp, List.take_length] at hB
        have heq : ka = kb := hA.same hB (fun m => by simp) hG hV.out.2.2.1.rising hV.out.2.2.2.1.rising
        have HEQ := Lib.hid heq
        have HA := Lib.hid hA
        have HG := Lib.hid hG
        have HM := Lib.hid hm
        clear hkn hA hB hG hH heq hm
        obtain ⟨wa, hwa⟩ : ∃ wa, wa = wr := ⟨_, rfl⟩
        rw [← hwa] at hV HM ⊢
        clear hwa
        have hl60 : len1 ≤ 60 := by omega
        go_wp2_with fail
        go_loopw [9] (fun v wx => ∃ (i : Nat), v = .int .i64 i ∧ i ≤ len1 ∧ Hid (Mod (fun _ => False) wa wx)) (fun v _ => len1 - (intOf v).toNat)
        case atStart => exact ⟨0, rfl, Nat.zero_le _, Mod.refl _ _⟩
        case round =>
          obtain ⟨i, rfl, hi, hm2⟩ := hrel
          have VA := Lib.hid (hV.out.1.new hm2.out)
          have VB := Lib.hid (hV.out.2.1.new hm2.out)
          have HM2 := Lib.hid (HM.out.trans hm2.out)
          by_cases hlt2 : (i : Int) < len1
          · obtain ⟨t, ht⟩ : ∃ t, l[i]? = some t := ⟨_, List.getElem?_eq_getElem (by rw [HL.out.1]; omega)⟩
            obtain ⟨hki, X, rfl, c0, c1, c2, c3⟩ := (HL.out.new HM2.out).2.2 i t ht
            have HKI := Lib.hid hki
            have HT := Lib.hid ht
            have HMEM := Lib.hid (List.mem_of_getElem? ht)
            have hil2 : i < len1 := by omega
            have HR := Lib.hid (refRight t wr)
            unfold rcv at HR
            clear hki ht
            go_wp2_with fail
            refine HR.out.mono ?_; rintro e w4 ⟨rfl, m4⟩
            have VA4 := Lib.hid (VA.out.new m4)
            have HM4 := Lib.hid (HM2.out.trans m4)
            have MA4 := Lib.hid (hm2.out.trans m4)
            have d0 := m4.cell c0 (fun h => h); have d1 := m4.cell c1 (fun h => h); have d2 := m4.cell c2 (fun h => h); have d3 := m4.cell c3 (fun h => h)
            have HO := Lib.hid (memOf t.1 ba Ma Sa 64 ka w4 HKI.out VA4.out)
            obtain ⟨o, ho⟩ : ∃ o, o = (lkL ka t.1).isSome := ⟨_, rfl⟩
            obtain ⟨r, hr⟩ : ∃ r, r = rd ka t.1 := ⟨_, rfl⟩
            obtain ⟨ri, hri⟩ : ∃ r, r = idf ka t.1 := ⟨_, rfl⟩
            rw [← ho, ← hr, ← hri] at HO
            have HOO := Lib.hid ho
            have HRR := Lib.hid hr
            clear m4 c0 c1 c2 c3 ho hr hri
            go_wp2_with fail
            refine HO.out.mono ?_; rintro e w5 ⟨rfl, m5⟩
            have ma := (m5.alloc (.cells #[.int .i64 ri, .int .i64 r.s, .int .i64 r.u, .int .i64 r.b] TMb))
            have XA := Lib.hid (Blk.new w5 #[.int .i64 ri, .int .i64 r.s, .int .i64 r.u, .int .i64 r.b] TMb)
            have MA5 := Lib.hid (MA4.out.trans ma)
            have c0 := ma.cell d0 (fun h => h); have c1 := ma.cell d1 (fun h => h); have c2 := ma.cell d2 (fun h => h); have c3 := ma.cell d3 (fun h => h)
            clear m5 ma d0 d1 d2 d3
            by_cases hrt : RightP t
            · have hrt' : decide (RightP t) = true := by simpa using hrt
              obtain ⟨r', hr', hn⟩ := HA.out.hi t HMEM.out ⟨hrt.1, hrt.2.1, hrt.2.2.1, hrt.2.2.2.1, hrt.2.2.2.2.1, hrt.2.2.2.2.2, by decide, by decide⟩ (HG.out t HMEM.out).1 (HG.out t HMEM.out).2
              have ho : o = true := by rw [HOO.out, hr']; rfl
              have hr2 : r = r' := by rw [HRR.out]; unfold rd; rw [hr']; rfl
              subst ho
              subst hr2
              have hnn : decide (newP t.2 r) = false := by simpa using hn
              have HNW := Lib.hid (fun n => refNewer t (ri, r) ((w5.alloc (.cells #[.int .i64 ri, .int .i64 r.s, .int .i64 r.u, .int .i64 r.b] TMb)).drewN n))
              unfold rcv at HNW
              dsimp only at HNW
              rw [hnn] at HNW
              clear hr' hn hrt hnn
              go_upto_region 19 with fail
              generalize w5.alloc (.cells #[.int .i64 ri, .int .i64 r.s, .int .i64 r.u, .int .i64 r.b] TMb) = w6 at *
              obtain ⟨B5, hB5⟩ : ∃ B, B = w5.heap.size := ⟨_, rfl⟩
              rw [← hB5] at XA ⊢
              clear hB5
              have y0 := XA.out.cell 0; have y1 := XA.out.cell 1; have y2 := XA.out.cell 2; have y3 := XA.out.cell 3
              refine wp_region2 [] [] (by kernel_rfl) (by kernel_rfl) ?_
              repeat (first | (refine reg_anyT (by rfl) (fun K hK => ?_); go_simp; refine hK _ _ ?_; clear hK K) | (refine reg_read (by rfl) (fun K hK => ?_); go_simp; refine hK _ _ ?_; clear hK K))
              refine reg_eff (by rfl) (fun rn K hK => ?_); go_simp
              refine (HNW.out _).mono ?_; rintro e w' ⟨rfl, m7⟩
              refine hK _ _ ?_; clear hK K
              repeat (first | (refine reg_anyT (by rfl) (fun K hK => ?_); go_simp; refine hK _ _ ?_; clear hK K) | (refine reg_read (by rfl) (fun K hK => ?_); go_simp; refine hK _ _ ?_; clear hK K))
              refine reg_nil (fun nd => ?_)
              have MA7 := Lib.hid (MA5.out.trans (m7.undrew.drewN nd))
              clear m7 y0 y1 y2 y3 c0 c1 c2 c3
              go_wp2_with fail
              exact ⟨⟨i + 1, by go_num, by omega, MA7⟩, by simp [intOf]; omega⟩
            · have hrt' : decide (RightP t) = false := by simpa using hrt
              clear hrt
              go_wp2_with fail
              exact ⟨⟨i + 1, by go_num, by omega, MA5⟩, by simp [intOf]; omega⟩
          · have HAL := Lib.hid (memAll ba Ma Sa 64 ka wr VA.out (by have := hV.out.2.2.1.len; omega) hV.out.2.2.1.i64)
            go_wp2_with fail
            refine HAL.out.mono ?_; rintro e w4 ⟨⟨v4, rfl, o4⟩, m4⟩
            have HBL := Lib.hid (memAll bb Mb Sb 64 kb w4 (VB.out.new m4) (by have := hV.out.2.2.2.1.len; omega) hV.out.2.2.2.1.i64)
            rw [← HEQ.out] at HBL
            have O4 := Lib.hid o4
            have M4 := Lib.hid (HM2.out.trans m4)
            clear o4 m4
            go_wp2_with fail
            refine HBL.out.mono ?_; rintro e w5 ⟨⟨v5, rfl, o5⟩, m5⟩
            have HSM := Lib.hid (refSameL v4 v5 _ _ ka w5 (owns_new O4.out m5) o5 (by have := hV.out.2.2.1.len; omega))
            have M5 := Lib.hid (M4.out.trans m5)
            clear o5 m5
            go_wp2_with fail
            refine HSM.out.mono ?_; rintro e w6 ⟨rfl, m6⟩
            have M6 := Lib.hid (M5.out.trans m6)
            clear m6
            go_wp2_with fail
            go_ret
            exact ⟨rfl, M6.out⟩
end Go.Proofs.Ytagiodagbfahpaa
