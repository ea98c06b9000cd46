/- The walk of the statement MemberSelf: the call returns true and turns nothing that was there; no condition. -/
import Derived.Test.YtagiodagbfahpaaSnO
namespace Go.Proofs.Ytagiodagbfahpaa
open Go Go.RowKit

/-- Itself is not known among others. -/
theorem step_none {S : Int × Rc} {most : Int} {ks : List (Int × Rc)} (h : lkL ks S.1 = none) (s : Sp) : lkL (stepK S most ks s) S.1 = none := by
  rw [lk_none] at h ⊢
  unfold stepK
  split
  · unfold hearK
    split
    · rename_i hc
      intro q hq
      have hq2 : q ∈ putL ks s.m.1 ⟨s.m.2.s, s.m.2.u, s.t⟩ := by
        unfold hearL cutX at hq
        split at hq
        · exact (List.mem_filter.1 hq).1
        · exact hq
      rcases mem_put hq2 with rfl | hq2
      · exact hc.2.1
      · exact h q hq2
    · exact h
  · split
    · unfold failK
      split
      · split
        · rename_i r hk
          split
          · intro q hq
            rcases mem_put hq with rfl | hq
            · exact h (s.n, r) (lk_some_mem hk)
            · exact h q hq
          · exact h
        · exact h
      · exact h
    · split
      · unfold tickK
        split
        · intro q hq
          obtain ⟨q', hq', e⟩ := tickL_mem hq
          have := h q' hq'
          rcases e with rfl | rfl <;> exact this
        · exact h
      · exact h
theorem stepS_id (S : Int × Rc) (s : Sp) : (stepS S s).1 = S.1 := by
  unfold stepS
  split
  · exact hearSelf_id _ _ _
  · rfl
theorem SelfOk.step {S : Int × Rc} (h : SelfOk S) (s : Sp) : SelfOk (stepS S s) := by
  unfold stepS
  split
  · exact h.hear _ _
  · exact h
theorem stepS_up {S : Int × Rc} (h : SelfOk S) (s : Sp) : S.2.s ≤ (stepS S s).2.s := by
  unfold stepS
  split
  · unfold hearSelf
    split
    · rename_i hc
      have := hc.1
      unfold WordOk at this
      unfold SelfOk at h
      unfold hearS
      split
      · rename_i hn
        unfold newP at hn
        simp only
        omega
      · exact Int.le_refl _
    · exact Int.le_refl _
  · exact Int.le_refl _
/-- Behind a word on itself. -/
theorem stepS_word {S : Int × Rc} (h : SelfOk S) {s : Sp} (hd : s.d = 0) (hw : WordOk s.m s.t) (hi : s.m.1 = S.1) (hg : (stepS S s).2.s < 1073741824) : ¬ newP s.m.2 (stepS S s).2 ∧ (s.m.2.u ≠ 1 → ¬ (stepS S s).2.s ≤ s.m.2.s) := by
  unfold stepS at hg ⊢
  rw [if_pos hd] at hg ⊢
  unfold hearSelf at hg ⊢
  rw [if_pos ⟨hw, hi⟩] at hg ⊢
  unfold WordOk at hw
  unfold SelfOk at h
  unfold hearS at hg ⊢
  by_cases hn : newP s.m.2 S.2
  · rw [if_pos hn] at hg ⊢
    unfold newP at hn ⊢
    simp only at hg ⊢
    omega
  · rw [if_neg hn] at hg ⊢
    refine ⟨hn, fun hu hc => hn ?_⟩
    unfold newP
    omega

set_option maxRecDepth 100000 in
set_option maxHeartbeats 4000000 in
theorem memberSelf_walk (self : Int) (a1 : Option Addr) (len1 cap1 : Nat) (l : List Sp) (w : World) (hsi : (Lit.int .i64 self).wf = true) (hl : IsSps w a1 len1 l) :
    Calls Try.prog 8 #[.int .i64 self, .slice a1 len1 cap1] w fun e w' => e = .returned (.bool true) ∧ Below w.heap.size w w' := by
  refine Calls.mono (R := fun e w' => e = .returned (.bool true) ∧ Mod (fun _ => False) w w') ?_ (fun e w' ⟨h1, h2⟩ => ⟨h1, h2.bel⟩)
  have HL := Lib.hid hl
  have HSI : Hid (I64 self) := hsi
  have hll : (len1 : Int) ≤ 9223372036854775807 := hl.2.1
  clear hl hsi
  by_cases hok : ViewOk self 8
  · have HOK := Lib.hid hok
    clear hok
    go_enter Try.func8, Try.ntmps8
    go_wp2_with fail
    refine (awake12 _).mono ?_; rintro e w1 ⟨rfl, m1⟩
    have M1 := Lib.hid m1
    clear m1
    go_wp2_with fail
    refine (memNew self 8 _ HOK.out).mono ?_; rintro e w2 ⟨rfl, va, m2, s2⟩
    have VA := Lib.hid va
    have M2 := Lib.hid (M1.out.trans m2)
    clear va m2
    go_wp2_with fail
    refine (refVNew self 8 _ HOK.out).mono ?_; rintro e w3 ⟨rfl, r3, m3, s3⟩
    obtain ⟨b, hb⟩ : ∃ b, b = w1.heap.size + 1 := ⟨_, rfl⟩
    obtain ⟨M, hM⟩ : ∃ b, b = w1.heap.size := ⟨_, rfl⟩
    obtain ⟨b', hb'⟩ : ∃ b, b = w2.heap.size := ⟨_, rfl⟩
    have hz := M1.out.size
    have two : TwoV w3 b M b' (b' + 1) (self, ⟨0, 1, 0⟩) 8 [] := by
      refine ⟨?_, ?_, by omega, OkV.nil _ (by decide)⟩
      · rw [hb, hM]; exact VA.out.new m3
      · rw [hb']; exact r3
    have TW := Lib.hid two
    have M3 := Lib.hid (M2.out.trans m3)
    have HN : Hid (w.heap.size ≤ b ∧ w.heap.size ≤ M ∧ w.heap.size ≤ b') := by show _ ∧ _ ∧ _; omega
    rw [← hb, ← hb']
    clear two r3 m3 hb hM hb' hz VA M2 M1 s2 s3
    go_wp2_with fail
    go_loopw [10, 11] (fun u v wr => ∃ (k : Nat) (Sa : Int × Rc) (ks : List (Int × Rc)), v = .int .i64 k ∧ k ≤ len1 ∧ k ≤ 100 ∧ u = .int .i64 Sa.2.s ∧ Hid (TwoV wr b M b' (b' + 1) Sa 8 ks ∧ Sa.1 = self ∧ SelfOk Sa ∧ lkL ks Sa.1 = none) ∧ Mod (fun _ => False) w wr) (fun _ v _ => 100 - (intOf v).toNat)
    case atStart => exact ⟨0, (self, ⟨0, 1, 0⟩), [], rfl, Nat.zero_le _, Nat.zero_le _, rfl, ⟨TW.out, rfl, ⟨Int.le_refl 0, show (0 : Int) ≤ 1073741824 by decide, rfl⟩, rfl⟩, M3.out⟩
    case round =>
      obtain ⟨k, Sa, ks, rfl, hk, hk150, rfl, hB, hm⟩ := hrel
      by_cases hlt : k < len1 ∧ k < 100
      · obtain ⟨hlt1, hlt2⟩ := hlt
        obtain ⟨t, ht⟩ : ∃ t, l[k]? = some t := ⟨_, List.getElem?_eq_getElem (by rw [HL.out.1]; exact hlt1)⟩
        obtain ⟨hki, X, rfl, c0, c1, c2, c3, c4, c5, c6, c7⟩ := (HL.out.new hm).2.2 k t ht
        have HKI := Lib.hid hki.1
        have HT := Lib.hid ht
        have hlt1' : (k : Int) < len1 := by omega
        have hlt2' : (k : Int) < 100 := by omega
        have HM := Lib.hid hm
        clear ht hki hm
        go_wp2_with fail
        refine (stepBoth t b M b' (b' + 1) Sa 8 ks wr hB.out.1 (by decide) HKI.out).mono ?_; rintro e w5 ⟨rfl, b5, m5⟩
        have hm5 : Mod (fun _ => False) w w5 := HM.out.new m5 (by intro i hi; have := HN.out; unfold TurnV at hi; omega)
        have HM5 := Lib.hid hm5
        have HUP := Lib.hid (stepS_up hB.out.2.2.1 t)
        have HWD := Lib.hid (fun hd hw hi => stepS_word hB.out.2.2.1 (s := t) hd hw hi)
        have hI5 : (stepS Sa t).1 = self ∧ SelfOk (stepS Sa t) ∧ lkL (stepK Sa 8 ks t) (stepS Sa t).1 = none := ⟨by rw [stepS_id]; exact hB.out.2.1, hB.out.2.2.1.step t, by rw [stepS_id]; exact step_none hB.out.2.2.2 t⟩
        have HSA := Lib.hid hB.out.2.1
        obtain ⟨ks5, hks5⟩ : ∃ l, l = stepK Sa 8 ks t := ⟨_, rfl⟩
        obtain ⟨S5, hS5⟩ : ∃ l, l = stepS Sa t := ⟨_, rfl⟩
        rw [← hks5, ← hS5] at b5 hI5
        rw [← hS5] at HUP HWD
        have HI5 := Lib.hid hI5
        have HNN : Hid ((lkL ks5 self).isSome = false) := by show _ = _; rw [← hI5.1, hI5.2.2]; rfl
        have hs5 := hI5.2.1
        unfold SelfOk at hs5
        have B5 := Lib.hid b5
        obtain ⟨_, X', hX', c0, c1, c2, c3, c4, c5, c6, c7⟩ := (HL.out.new hm5).2.2 k t HT.out
        cases hX'
        have hid5 : S5.1 = self := hI5.1
        obtain ⟨i5, ⟨s5, u5, bb5⟩⟩ := S5
        dsimp only at hs5 hid5 HUP
        obtain ⟨h5a, h5b, rfl⟩ := hs5
        subst hid5
        have HSF := Lib.hid (memSelf b M (i5, ⟨s5, 1, bb5⟩) 8 ks5 w5 B5.out.t)
        unfold rcv at HSF
        dsimp only at HSF
        clear b5 m5 hm5 hks5 hS5 hB HM hI5
        go_wp2_with fail
        refine HSF.out.mono ?_; rintro e w6 ⟨rfl, m6⟩
        have ma := m6.alloc (.cells #[.int .i64 i5, .int .i64 s5, .int .i64 1, .int .i64 bb5] TMb)
        have XA := Lib.hid (Blk.new w6 #[.int .i64 i5, .int .i64 s5, .int .i64 1, .int .i64 bb5] TMb)
        have B6 := Lib.hid (B5.out.new ma)
        have HM6 := Lib.hid (HM5.out.trans ma)
        obtain ⟨_, X', hX', d0, d1, d2, d3, d4, d5, d6, d7⟩ := (HL.out.new HM6.out).2.2 k t HT.out
        cases hX'
        clear c0 c1 c2 c3 c4 c5 c6 c7 m6 ma B5 HM5 HSF
        go_upto_region 12 with fail
        generalize w6.alloc (.cells #[.int .i64 i5, .int .i64 s5, .int .i64 1, .int .i64 bb5] TMb) = w7 at *
        obtain ⟨BA, hBA⟩ : ∃ B, B = w6.heap.size := ⟨_, rfl⟩
        rw [← hBA] at XA ⊢
        clear hBA
        have HRT := Lib.hid (refRight t.m w7)
        unfold rcv at HRT
        go_wp2_with fail
        refine HRT.out.mono ?_; rintro e w8 ⟨rfl, m8⟩
        have BT := Lib.hid (B6.out.new m8)
        have MT := Lib.hid (HM6.out.trans m8)
        have XT := Lib.hid (XA.out.mod m8 (fun h => h))
        obtain ⟨_, X', hX', c0, c1, c2, c3, c4, c5, c6, c7⟩ := (HL.out.new MT.out).2.2 k t HT.out
        cases hX'
        clear d0 d1 d2 d3 d4 d5 d6 d7 m8 B6 HM6 XA HRT
        have x0 := XT.out.cell 0; have x1 := XT.out.cell 1; have x2 := XT.out.cell 2; have x3 := XT.out.cell 3
        have hup : decide (s5 < Sa.2.s) = false := by have := HUP.out; simp; omega
        obtain ⟨td, ⟨tid, ⟨ts, tu, tb⟩⟩, tn, tt, tk⟩ := t
        dsimp only at *
        have WX : VW w8 b M (i5, ⟨s5, 1, bb5⟩) 8 ks5 ∧ True ∧ Blk w8 BA #[.int .i64 i5, .int .i64 s5, .int .i64 1, .int .i64 bb5] TMb := ⟨BT.out.t, trivial, XT.out⟩
        by_cases hd : td = 0
        · have hd' : (td == 0) = true := by simpa using hd
          by_cases hr : RightP (tid, ⟨ts, tu, tb⟩)
          · rw [decide_eq_true hr]
            by_cases hi : tid = i5
            · have hi' : (tid == i5) = true := by simpa using hi
              by_cases hn1 : 0 ≤ tt
              · by_cases hn2 : tt ≤ 1099511627776
                · have hwd := HWD.out hd (word_parts.2 ⟨hr, hn1, hn2⟩) (hi.trans HSA.out.symm)
                  have hrr := hr
                  unfold RightP at hrr
                  dsimp only at hwd hrr
                  have HW2 := Lib.hid hwd
                  have HNW := Lib.hid (refNewer (tid, ⟨ts, tu, tb⟩) (i5, ⟨s5, 1, bb5⟩))
                  unfold rcv at HNW
                  dsimp only at HNW
                  obtain ⟨NW, hNW⟩ : ∃ N, N = decide (newP ⟨ts, tu, tb⟩ ⟨s5, 1, bb5⟩) := ⟨_, rfl⟩
                  rw [← hNW] at HNW
                  have HNWE := Lib.hid hNW
                  clear hd hr hi hwd hrr hNW
                  go_upto_region 17 with fail
                  have ma := (Mod.refl (fun _ => False) w8).alloc (.cells #[.int .i64 tid, .int .i64 ts, .int .i64 tu, .int .i64 tb] TMb)
                  have YA := Lib.hid (Blk.new w8 #[.int .i64 tid, .int .i64 ts, .int .i64 tu, .int .i64 tb] TMb)
                  have XU := Lib.hid (XT.out.mod ma (fun h => h))
                  have BU := Lib.hid (BT.out.new ma)
                  have MU := Lib.hid (MT.out.trans ma)
                  obtain ⟨BM, hBM⟩ : ∃ B, B = w8.heap.size := ⟨_, rfl⟩
                  rw [← hBM] at YA ⊢
                  clear hBM ma c0 c1 c2 c3 c4 c5 c6 c7 x0 x1 x2 x3 WX BT MT XT
                  generalize w8.alloc (.cells #[.int .i64 tid, .int .i64 ts, .int .i64 tu, .int .i64 tb] TMb) = w9 at *
                  have x0 := XU.out.cell 0; have x1 := XU.out.cell 1; have x2 := XU.out.cell 2; have x3 := XU.out.cell 3
                  have y0 := YA.out.cell 0; have y1 := YA.out.cell 1; have y2 := YA.out.cell 2; have y3 := YA.out.cell 3
                  go_wp2_with fail
                  refine (HNW.out w9).mono ?_; rintro e w10 ⟨rfl, m10⟩
                  have BT := Lib.hid (BU.out.new m10)
                  have MT := Lib.hid (MU.out.trans m10)
                  have XT := Lib.hid (XU.out.mod m10 (fun h => h))
                  have YT := Lib.hid (YA.out.mod m10 (fun h => h))
                  clear x0 x1 x2 x3 y0 y1 y2 y3 m10 BU MU XU YA HNW
                  have x0 := XT.out.cell 0; have x1 := XT.out.cell 1; have x2 := XT.out.cell 2; have x3 := XT.out.cell 3
                  have y0 := YT.out.cell 0; have y1 := YT.out.cell 1; have y2 := YT.out.cell 2; have y3 := YT.out.cell 3
                  have WX : VW w10 b M (i5, ⟨s5, 1, bb5⟩) 8 ks5 ∧ True ∧ Blk w10 BA #[.int .i64 i5, .int .i64 s5, .int .i64 1, .int .i64 bb5] TMb := ⟨BT.out.t, trivial, XT.out⟩
                  by_cases g : s5 < 1073741824
                  · have hn := HW2.out g
                    have hNf : NW = false := by rw [HNWE.out]; exact decide_eq_false hn.1
                    subst hNf
                    by_cases e1 : tu = 1
                    · have e1' : (tu == 1) = true := by simpa using e1
                      have e2' : (tu != 1) = false := by simp [e1]
                      clear e1 hn
                      have T0 := Lib.hid WX
                      clear WX
                      have HOF := Lib.hid (memOf i5 b M (i5, ⟨s5, 1, bb5⟩) 8 ks5 _ HSI.out T0.out.1)
                      rw [HNN.out] at HOF
                      go_wp2_with fail
                      refine HOF.out.mono ?_; rintro e w9 ⟨rfl, m9⟩
                      have m10 := m9.alloc (.cells #[.int .i64 (idf ks5 i5), .int .i64 (rd ks5 i5).s, .int .i64 (rd ks5 i5).u, .int .i64 (rd ks5 i5).b] TMb)
                      have BC := Lib.hid (BT.out.new m10)
                      have MC := Lib.hid (MT.out.trans m10)
                      clear m9 m10
                      go_wp2_with fail
                      exact ⟨⟨k + 1, (i5, ⟨s5, 1, bb5⟩), ks5, by go_num, by omega, by omega, rfl, ⟨BC.out, rfl, HI5.out.2⟩, MC.out⟩, by simp [intOf]; omega⟩
                    · have e1' : (tu == 1) = false := by simpa using e1
                      have e2' : (tu != 1) = true := by simp [e1]
                      have e3 : decide (s5 ≤ ts) = false := by have := hn.2 e1; simpa using this
                      clear e1 hn
                      have T0 := Lib.hid WX
                      clear WX
                      have HOF := Lib.hid (memOf i5 b M (i5, ⟨s5, 1, bb5⟩) 8 ks5 _ HSI.out T0.out.1)
                      rw [HNN.out] at HOF
                      go_wp2_with fail
                      refine HOF.out.mono ?_; rintro e w9 ⟨rfl, m9⟩
                      have m10 := m9.alloc (.cells #[.int .i64 (idf ks5 i5), .int .i64 (rd ks5 i5).s, .int .i64 (rd ks5 i5).u, .int .i64 (rd ks5 i5).b] TMb)
                      have BC := Lib.hid (BT.out.new m10)
                      have MC := Lib.hid (MT.out.trans m10)
                      clear m9 m10
                      go_wp2_with fail
                      exact ⟨⟨k + 1, (i5, ⟨s5, 1, bb5⟩), ks5, by go_num, by omega, by omega, rfl, ⟨BC.out, rfl, HI5.out.2⟩, MC.out⟩, by simp [intOf]; omega⟩
                  · have g' : decide (s5 < 1073741824) = false := by simpa using g
                    have HNWE2 := HNWE
                    clear HNWE HNWE2 g
                    by_cases e1 : tu = 1
                    · have e1' : (tu == 1) = true := by simpa using e1
                      have e2' : (tu != 1) = false := by simp [e1]
                      clear e1
                      obtain rfl | rfl : NW = true ∨ NW = false := by cases NW <;> simp
                      · have T0 := Lib.hid WX
                        clear WX
                        have HOF := Lib.hid (memOf i5 b M (i5, ⟨s5, 1, bb5⟩) 8 ks5 _ HSI.out T0.out.1)
                        rw [HNN.out] at HOF
                        go_wp2_with fail
                        refine HOF.out.mono ?_; rintro e w9 ⟨rfl, m9⟩
                        have m10 := m9.alloc (.cells #[.int .i64 (idf ks5 i5), .int .i64 (rd ks5 i5).s, .int .i64 (rd ks5 i5).u, .int .i64 (rd ks5 i5).b] TMb)
                        have BC := Lib.hid (BT.out.new m10)
                        have MC := Lib.hid (MT.out.trans m10)
                        clear m9 m10
                        go_wp2_with fail
                        exact ⟨⟨k + 1, (i5, ⟨s5, 1, bb5⟩), ks5, by go_num, by omega, by omega, rfl, ⟨BC.out, rfl, HI5.out.2⟩, MC.out⟩, by simp [intOf]; omega⟩
                      · have T0 := Lib.hid WX
                        clear WX
                        have HOF := Lib.hid (memOf i5 b M (i5, ⟨s5, 1, bb5⟩) 8 ks5 _ HSI.out T0.out.1)
                        rw [HNN.out] at HOF
                        go_wp2_with fail
                        refine HOF.out.mono ?_; rintro e w9 ⟨rfl, m9⟩
                        have m10 := m9.alloc (.cells #[.int .i64 (idf ks5 i5), .int .i64 (rd ks5 i5).s, .int .i64 (rd ks5 i5).u, .int .i64 (rd ks5 i5).b] TMb)
                        have BC := Lib.hid (BT.out.new m10)
                        have MC := Lib.hid (MT.out.trans m10)
                        clear m9 m10
                        go_wp2_with fail
                        exact ⟨⟨k + 1, (i5, ⟨s5, 1, bb5⟩), ks5, by go_num, by omega, by omega, rfl, ⟨BC.out, rfl, HI5.out.2⟩, MC.out⟩, by simp [intOf]; omega⟩
                    · have e1' : (tu == 1) = false := by simpa using e1
                      have e2' : (tu != 1) = true := by simp [e1]
                      clear e1
                      obtain ⟨E3, hE3⟩ : ∃ E, E = decide (s5 ≤ ts) := ⟨_, rfl⟩
                      obtain rfl | rfl : E3 = true ∨ E3 = false := by cases E3 <;> simp
                      · have e3 := hE3.symm
                        clear hE3
                        obtain rfl | rfl : NW = true ∨ NW = false := by cases NW <;> simp
                        · have T0 := Lib.hid WX
                          clear WX
                          have HOF := Lib.hid (memOf i5 b M (i5, ⟨s5, 1, bb5⟩) 8 ks5 _ HSI.out T0.out.1)
                          rw [HNN.out] at HOF
                          go_wp2_with fail
                          refine HOF.out.mono ?_; rintro e w9 ⟨rfl, m9⟩
                          have m10 := m9.alloc (.cells #[.int .i64 (idf ks5 i5), .int .i64 (rd ks5 i5).s, .int .i64 (rd ks5 i5).u, .int .i64 (rd ks5 i5).b] TMb)
                          have BC := Lib.hid (BT.out.new m10)
                          have MC := Lib.hid (MT.out.trans m10)
                          clear m9 m10
                          go_wp2_with fail
                          exact ⟨⟨k + 1, (i5, ⟨s5, 1, bb5⟩), ks5, by go_num, by omega, by omega, rfl, ⟨BC.out, rfl, HI5.out.2⟩, MC.out⟩, by simp [intOf]; omega⟩
                        · have T0 := Lib.hid WX
                          clear WX
                          have HOF := Lib.hid (memOf i5 b M (i5, ⟨s5, 1, bb5⟩) 8 ks5 _ HSI.out T0.out.1)
                          rw [HNN.out] at HOF
                          go_wp2_with fail
                          refine HOF.out.mono ?_; rintro e w9 ⟨rfl, m9⟩
                          have m10 := m9.alloc (.cells #[.int .i64 (idf ks5 i5), .int .i64 (rd ks5 i5).s, .int .i64 (rd ks5 i5).u, .int .i64 (rd ks5 i5).b] TMb)
                          have BC := Lib.hid (BT.out.new m10)
                          have MC := Lib.hid (MT.out.trans m10)
                          clear m9 m10
                          go_wp2_with fail
                          exact ⟨⟨k + 1, (i5, ⟨s5, 1, bb5⟩), ks5, by go_num, by omega, by omega, rfl, ⟨BC.out, rfl, HI5.out.2⟩, MC.out⟩, by simp [intOf]; omega⟩
                      · have e3 := hE3.symm
                        clear hE3
                        obtain rfl | rfl : NW = true ∨ NW = false := by cases NW <;> simp
                        · have T0 := Lib.hid WX
                          clear WX
                          have HOF := Lib.hid (memOf i5 b M (i5, ⟨s5, 1, bb5⟩) 8 ks5 _ HSI.out T0.out.1)
                          rw [HNN.out] at HOF
                          go_wp2_with fail
                          refine HOF.out.mono ?_; rintro e w9 ⟨rfl, m9⟩
                          have m10 := m9.alloc (.cells #[.int .i64 (idf ks5 i5), .int .i64 (rd ks5 i5).s, .int .i64 (rd ks5 i5).u, .int .i64 (rd ks5 i5).b] TMb)
                          have BC := Lib.hid (BT.out.new m10)
                          have MC := Lib.hid (MT.out.trans m10)
                          clear m9 m10
                          go_wp2_with fail
                          exact ⟨⟨k + 1, (i5, ⟨s5, 1, bb5⟩), ks5, by go_num, by omega, by omega, rfl, ⟨BC.out, rfl, HI5.out.2⟩, MC.out⟩, by simp [intOf]; omega⟩
                        · have T0 := Lib.hid WX
                          clear WX
                          have HOF := Lib.hid (memOf i5 b M (i5, ⟨s5, 1, bb5⟩) 8 ks5 _ HSI.out T0.out.1)
                          rw [HNN.out] at HOF
                          go_wp2_with fail
                          refine HOF.out.mono ?_; rintro e w9 ⟨rfl, m9⟩
                          have m10 := m9.alloc (.cells #[.int .i64 (idf ks5 i5), .int .i64 (rd ks5 i5).s, .int .i64 (rd ks5 i5).u, .int .i64 (rd ks5 i5).b] TMb)
                          have BC := Lib.hid (BT.out.new m10)
                          have MC := Lib.hid (MT.out.trans m10)
                          clear m9 m10
                          go_wp2_with fail
                          exact ⟨⟨k + 1, (i5, ⟨s5, 1, bb5⟩), ks5, by go_num, by omega, by omega, rfl, ⟨BC.out, rfl, HI5.out.2⟩, MC.out⟩, by simp [intOf]; omega⟩
                · have hn2' : decide (tt ≤ 1099511627776) = false := by simpa using hn2
                  clear hd hr hi hn2
                  have T0 := Lib.hid WX
                  clear WX
                  have HOF := Lib.hid (memOf i5 b M (i5, ⟨s5, 1, bb5⟩) 8 ks5 _ HSI.out T0.out.1)
                  rw [HNN.out] at HOF
                  go_wp2_with fail
                  refine HOF.out.mono ?_; rintro e w9 ⟨rfl, m9⟩
                  have m10 := m9.alloc (.cells #[.int .i64 (idf ks5 i5), .int .i64 (rd ks5 i5).s, .int .i64 (rd ks5 i5).u, .int .i64 (rd ks5 i5).b] TMb)
                  have BC := Lib.hid (BT.out.new m10)
                  have MC := Lib.hid (MT.out.trans m10)
                  clear m9 m10
                  go_wp2_with fail
                  exact ⟨⟨k + 1, (i5, ⟨s5, 1, bb5⟩), ks5, by go_num, by omega, by omega, rfl, ⟨BC.out, rfl, HI5.out.2⟩, MC.out⟩, by simp [intOf]; omega⟩
              · have hn1' : decide (0 ≤ tt) = false := by simpa using hn1
                clear hd hr hi hn1
                have T0 := Lib.hid WX
                clear WX
                have HOF := Lib.hid (memOf i5 b M (i5, ⟨s5, 1, bb5⟩) 8 ks5 _ HSI.out T0.out.1)
                rw [HNN.out] at HOF
                go_wp2_with fail
                refine HOF.out.mono ?_; rintro e w9 ⟨rfl, m9⟩
                have m10 := m9.alloc (.cells #[.int .i64 (idf ks5 i5), .int .i64 (rd ks5 i5).s, .int .i64 (rd ks5 i5).u, .int .i64 (rd ks5 i5).b] TMb)
                have BC := Lib.hid (BT.out.new m10)
                have MC := Lib.hid (MT.out.trans m10)
                clear m9 m10
                go_wp2_with fail
                exact ⟨⟨k + 1, (i5, ⟨s5, 1, bb5⟩), ks5, by go_num, by omega, by omega, rfl, ⟨BC.out, rfl, HI5.out.2⟩, MC.out⟩, by simp [intOf]; omega⟩
            · have hi' : (tid == i5) = false := by simpa using hi
              clear hd hr hi
              have T0 := Lib.hid WX
              clear WX
              have HOF := Lib.hid (memOf i5 b M (i5, ⟨s5, 1, bb5⟩) 8 ks5 _ HSI.out T0.out.1)
              rw [HNN.out] at HOF
              go_wp2_with fail
              refine HOF.out.mono ?_; rintro e w9 ⟨rfl, m9⟩
              have m10 := m9.alloc (.cells #[.int .i64 (idf ks5 i5), .int .i64 (rd ks5 i5).s, .int .i64 (rd ks5 i5).u, .int .i64 (rd ks5 i5).b] TMb)
              have BC := Lib.hid (BT.out.new m10)
              have MC := Lib.hid (MT.out.trans m10)
              clear m9 m10
              go_wp2_with fail
              exact ⟨⟨k + 1, (i5, ⟨s5, 1, bb5⟩), ks5, by go_num, by omega, by omega, rfl, ⟨BC.out, rfl, HI5.out.2⟩, MC.out⟩, by simp [intOf]; omega⟩
          · rw [decide_eq_false hr]
            clear hd hr
            have T0 := Lib.hid WX
            clear WX
            have HOF := Lib.hid (memOf i5 b M (i5, ⟨s5, 1, bb5⟩) 8 ks5 _ HSI.out T0.out.1)
            rw [HNN.out] at HOF
            go_wp2_with fail
            refine HOF.out.mono ?_; rintro e w9 ⟨rfl, m9⟩
            have m10 := m9.alloc (.cells #[.int .i64 (idf ks5 i5), .int .i64 (rd ks5 i5).s, .int .i64 (rd ks5 i5).u, .int .i64 (rd ks5 i5).b] TMb)
            have BC := Lib.hid (BT.out.new m10)
            have MC := Lib.hid (MT.out.trans m10)
            clear m9 m10
            go_wp2_with fail
            exact ⟨⟨k + 1, (i5, ⟨s5, 1, bb5⟩), ks5, by go_num, by omega, by omega, rfl, ⟨BC.out, rfl, HI5.out.2⟩, MC.out⟩, by simp [intOf]; omega⟩
        · have hd' : (td == 0) = false := by simpa using hd
          clear hd
          have T0 := Lib.hid WX
          clear WX
          have HOF := Lib.hid (memOf i5 b M (i5, ⟨s5, 1, bb5⟩) 8 ks5 _ HSI.out T0.out.1)
          rw [HNN.out] at HOF
          go_wp2_with fail
          refine HOF.out.mono ?_; rintro e w9 ⟨rfl, m9⟩
          have m10 := m9.alloc (.cells #[.int .i64 (idf ks5 i5), .int .i64 (rd ks5 i5).s, .int .i64 (rd ks5 i5).u, .int .i64 (rd ks5 i5).b] TMb)
          have BC := Lib.hid (BT.out.new m10)
          have MC := Lib.hid (MT.out.trans m10)
          clear m9 m10
          go_wp2_with fail
          exact ⟨⟨k + 1, (i5, ⟨s5, 1, bb5⟩), ks5, by go_num, by omega, by omega, rfl, ⟨BC.out, rfl, HI5.out.2⟩, MC.out⟩, by simp [intOf]; omega⟩
      · have hend : (k : Int) < len1 → ¬ (k : Int) < 100 := by omega
        by_cases h6 : (k : Int) < len1
        · have h7 : ¬ (k : Int) < 100 := hend h6
          clear hend
          go_wp2_with fail
          go_ret
          exact ⟨rfl, hm⟩
        · clear hend
          go_wp2_with fail
          go_ret
          exact ⟨rfl, hm⟩
  · have HOK := Lib.hid hok
    clear hok
    go_enter Try.func8, Try.ntmps8
    go_wp2_with fail
    refine (awake12 _).mono ?_; rintro e w1 ⟨rfl, m1⟩
    have M1 := Lib.hid m1
    clear m1
    go_wp2_with fail
    refine (memNewBad self 8 _ HOK.out).mono ?_; rintro e w' ⟨rfl, rfl⟩
    go_wp2_with fail
    go_ret
    exact ⟨rfl, M1.out⟩
end Go.Proofs.Ytagiodagbfahpaa
