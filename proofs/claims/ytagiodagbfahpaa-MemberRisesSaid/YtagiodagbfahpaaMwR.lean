/- The walk of the statement MemberRises: the call returns true and turns nothing that was there; no condition. -/
import Derived.Test.YtagiodagbfahpaaMcN
namespace Go.Proofs.Ytagiodagbfahpaa
open Go Go.RowKit

theorem word_right {m : Int × Rc} {k : Nat} (hk : k ≤ 1000) : WordOk m k ↔ RightP m := by
  unfold WordOk RightP
  omega
/-- What a word that is taken leaves of its member. -/
theorem lk_hear {most : Int} {ks : List (Int × Rc)} {m : Int × Rc} {now : Int} : lkL (hearL most ks m now) m.1 = none ∨ lkL (hearL most ks m now) m.1 = some ⟨m.2.s, m.2.u, now⟩ := by
  unfold hearL cutX
  split
  · rw [lk_del]
    split
    · exact .inl rfl
    · right
      rw [lk_put, if_pos rfl]
  · right
    rw [lk_put, if_pos rfl]
theorem takes_eq (ks : List (Int × Rc)) (m : Int × Rc) : takes ks m = ((!(lkL ks m.1).isSome && !(m.2.u == 3)) || ((lkL ks m.1).isSome && decide (newP m.2 (rd ks m.1)))) := by
  unfold takes rd
  cases lkL ks m.1 <;> simp

set_option maxRecDepth 100000 in
set_option maxHeartbeats 4000000 in
theorem memberRises_walk (most : Int) (a1 : Option Addr) (len1 cap1 : Nat) (l : List (Int × Rc)) (w : World) (_ : (Lit.int .i64 most).wf = true) (hl : IsMems w a1 len1 l) :
    Calls Try.prog 4 #[.int .i64 most, .slice a1 len1 cap1] w fun e w' => e = .returned (.bool true) ∧ Below w.heap.size w w' := by
  refine Calls.mono (R := fun e w' => e = .returned (.bool true) ∧ Mod (fun _ => False) w w') ?_ (fun e w' ⟨h1, h2⟩ => ⟨h1, h2.bel⟩)
  have HL := Lib.hid hl
  have hll : (len1 : Int) ≤ 9223372036854775807 := hl.2.1
  clear hl
  by_cases hok : ViewOk 9 most
  · have HOK := Lib.hid hok
    have hm64 : most ≤ 64 := hok.2.2.2
    have HM64 := Lib.hid hm64
    clear hok hm64
    go_enter Try.func4, Try.ntmps4
    go_wp2_with fail
    refine (awake12 _).mono ?_; rintro e w1 ⟨rfl, m1⟩
    have M1 := Lib.hid m1
    clear m1
    go_wp2_with fail
    refine (memNew 9 most _ HOK.out).mono ?_; rintro e w2 ⟨rfl, va, m2, s2⟩
    have VA := Lib.hid va
    have M2 := Lib.hid (M1.out.trans m2)
    clear va m2
    obtain ⟨ba, hba⟩ : ∃ b, b = w1.heap.size + 1 := ⟨_, rfl⟩
    obtain ⟨Ma, hMa⟩ : ∃ b, b = w1.heap.size := ⟨_, rfl⟩
    have hz := M1.out.size
    have HN : Hid (w.heap.size ≤ ba ∧ w.heap.size ≤ Ma) := by show _ ∧ _; omega
    rw [← hba, ← hMa] at VA
    rw [← hba]
    clear hba hMa s2 hz M1
    go_wp2_with fail
    go_loopw [8] (fun v wr => ∃ (k : Nat) (Sa : Int × Rc) (ka : List (Int × Rc)), v = .int .i64 k ∧ k ≤ len1 ∧ k ≤ 100 ∧ Hid (VW wr ba Ma Sa most ka ∧ OkV most ka ∧ Sa.1 = 9) ∧ Mod (fun _ => False) w wr) (fun v _ => 100 - (intOf v).toNat)
    case atStart => exact ⟨0, _, [], rfl, Nat.zero_le _, Nat.zero_le _, ⟨VA.out, OkV.nil _ (by have := HOK.out; unfold ViewOk at this; omega), rfl⟩, M2.out⟩
    case round =>
      obtain ⟨k, Sa, ka, rfl, hk, hk1, hV, hm⟩ := hrel
      by_cases hlt : k < len1 ∧ k < 100
      · obtain ⟨hlt1, hlt2⟩ := hlt
        obtain ⟨t, ht⟩ : ∃ t, l[k]? = some t := ⟨_, List.getElem?_eq_getElem (by rw [HL.out.1]; exact hlt1)⟩
        obtain ⟨hki, X, rfl, c0, c1, c2, c3⟩ := (HL.out.new hm).2.2 k t ht
        have HKI := Lib.hid hki
        have hlt1' : (k : Int) < len1 := by omega
        have hlt2' : (k : Int) < 100 := by omega
        have HM := Lib.hid hm
        obtain ⟨id, s, u, tb⟩ := t
        dsimp only at HKI c0 c1 c2 c3
        -- the word, boxed
        have mt := (Mod.refl (fun _ => False) wr).alloc (.cells #[.int .i64 id, .int .i64 s, .int .i64 u, .int .i64 tb] TMb)
        have XT := Lib.hid (Blk.new wr #[.int .i64 id, .int .i64 s, .int .i64 u, .int .i64 tb] TMb)
        have V1 := Lib.hid (hV.out.1.new mt)
        have M1 := Lib.hid (hm.trans mt)
        obtain ⟨T, hT⟩ : ∃ T, T = wr.heap.size := ⟨_, rfl⟩
        obtain ⟨wt, hwt⟩ : ∃ wt, wt = wr.alloc (.cells #[.int .i64 id, .int .i64 s, .int .i64 u, .int .i64 tb] TMb) := ⟨_, rfl⟩
        rw [← hwt] at XT V1 M1
        rw [← hT] at XT
        have HTB : Hid (w.heap.size ≤ T ∧ ba < T ∧ Ma < T) := by show _ ∧ _ ∧ _; rw [hT]; exact ⟨hm.size, hV.out.1.lt.1, hV.out.1.lt.2⟩
        have HWT := Lib.hid hwt
        have HTT := Lib.hid hT
        have hTl : T < wt.heap.size := XT.out.lt
        clear ht hki hm mt hT hwt
        -- what was known of it
        obtain ⟨o1, ho1⟩ : ∃ o, o = (lkL ka id).isSome := ⟨_, rfl⟩
        obtain ⟨r1, hr1⟩ : ∃ r, r = rd ka id := ⟨_, rfl⟩
        obtain ⟨i1, hi1⟩ : ∃ r, r = idf ka id := ⟨_, rfl⟩
        have HO := Lib.hid (memOf id ba Ma Sa most ka wt HKI.out V1.out)
        rw [← ho1, ← hr1, ← hi1] at HO
        have HO1 := Lib.hid ho1; have HR1 := Lib.hid hr1; have HI1 := Lib.hid hi1
        clear ho1 hr1 hi1
        have x0 := XT.out.cell 0
        go_wp2_with fail
        rw [← HWT.out, ← HTT.out]
        refine HO.out.mono ?_; rintro e w4 ⟨rfl, m4⟩
        have ma := m4.alloc (.cells #[.int .i64 i1, .int .i64 r1.s, .int .i64 r1.u, .int .i64 r1.b] TMb)
        have XO := Lib.hid (Blk.new w4 #[.int .i64 i1, .int .i64 r1.s, .int .i64 r1.u, .int .i64 r1.b] TMb)
        have XT2 := Lib.hid (XT.out.mod ma (fun h => h))
        have V2 := Lib.hid (V1.out.new ma)
        have M2' := Lib.hid (M1.out.trans ma)
        have hz4 := m4.size
        obtain ⟨O, hO⟩ : ∃ O, O = w4.heap.size := ⟨_, rfl⟩
        have HO2 : Hid (T < O) := by show _ < _; omega
        clear m4 ma x0 c0 c1 c2 c3 hz4
        go_upto_region 10 with fail
        generalize w4.alloc (.cells #[.int .i64 i1, .int .i64 r1.s, .int .i64 r1.u, .int .i64 r1.b] TMb) = w5 at *
        rw [← hO] at XO ⊢
        have x0 := XT2.out.cell 0; have x1 := XT2.out.cell 1; have x2 := XT2.out.cell 2; have x3 := XT2.out.cell 3
        -- it is heard
        have HH := Lib.hid (memHear (id, ⟨s, u, tb⟩) (k : Int) ba Ma Sa most ka w5 V2.out hV.out.2.1 HM64.out)
        unfold rcv at HH
        dsimp only at HH
        obtain ⟨B1, hB1⟩ : ∃ B, B = (hearB Sa ka (id, ⟨s, u, tb⟩) k).1 := ⟨_, rfl⟩
        obtain ⟨B2, hB2⟩ : ∃ B, B = (hearB Sa ka (id, ⟨s, u, tb⟩) k).2 := ⟨_, rfl⟩
        obtain ⟨k2, hk2⟩ : ∃ B, B = hearK Sa most ka (id, ⟨s, u, tb⟩) k := ⟨_, rfl⟩
        obtain ⟨S2, hS2⟩ : ∃ B, B = hearSelf Sa (id, ⟨s, u, tb⟩) k := ⟨_, rfl⟩
        have hok2 : OkV most k2 := by rw [hk2]; exact hV.out.2.1.hearK _ _ _
        have hs9 : S2.1 = 9 := by rw [hS2, hearSelf_id]; exact hV.out.2.2
        rw [← hB1, ← hB2, ← hk2, ← hS2] at HH
        have HB1 := Lib.hid hB1; have HB2 := Lib.hid hB2; have HK2 := Lib.hid hk2
        have HOK2 := Lib.hid hok2
        have HS9 := Lib.hid hs9
        clear hB1 hB2 hk2 hS2 hO hok2 hs9
        go_wp2_with fail
        refine HH.out.mono ?_; rintro e w6 ⟨rfl, v6, m6⟩
        have V6 := Lib.hid v6
        have XT6 := Lib.hid (XT2.out.mod m6 (by have := HTB.out; omega))
        have XO6 := Lib.hid (XO.out.mod m6 (by have := HTB.out; have := HO2.out; omega))
        have M6 := Lib.hid (M2'.out.new m6 (by intro i hi; have := HN.out; omega))
        clear v6 m6 x0 x1 x2 x3 XT2 XO M2' V2
        -- what is known of it now
        obtain ⟨o2, ho2⟩ : ∃ o, o = (lkL k2 id).isSome := ⟨_, rfl⟩
        obtain ⟨r2, hr2⟩ : ∃ r, r = rd k2 id := ⟨_, rfl⟩
        obtain ⟨i2, hi2⟩ : ∃ r, r = idf k2 id := ⟨_, rfl⟩
        have HQ := Lib.hid (memOf id ba Ma S2 most k2 w6 HKI.out V6.out)
        rw [← ho2, ← hr2, ← hi2] at HQ
        have HO2' := Lib.hid ho2; have HR2 := Lib.hid hr2; have HI2 := Lib.hid hi2
        clear ho2 hr2 hi2
        have x0 := XT6.out.cell 0
        go_wp2_with fail
        refine HQ.out.mono ?_; rintro e w7 ⟨rfl, m7⟩
        have ma := m7.alloc (.cells #[.int .i64 i2, .int .i64 r2.s, .int .i64 r2.u, .int .i64 r2.b] TMb)
        have XN := Lib.hid (Blk.new w7 #[.int .i64 i2, .int .i64 r2.s, .int .i64 r2.u, .int .i64 r2.b] TMb)
        have XT8 := Lib.hid (XT6.out.mod ma (fun h => h))
        have XO8 := Lib.hid (XO6.out.mod ma (fun h => h))
        have V8 := Lib.hid (V6.out.new ma)
        have M8 := Lib.hid (M6.out.trans ma)
        obtain ⟨N, hNN⟩ : ∃ N, N = w7.heap.size := ⟨_, rfl⟩
        clear m7 ma x0 XT6 XO6 V6 M6
        go_upto_region 12 with fail
        generalize w7.alloc (.cells #[.int .i64 i2, .int .i64 r2.s, .int .i64 r2.u, .int .i64 r2.b] TMb) = w8 at *
        rw [← hNN] at XN ⊢
        clear hNN
        have x0 := XT8.out.cell 0; have x1 := XT8.out.cell 1; have x2 := XT8.out.cell 2; have x3 := XT8.out.cell 3
        obtain ⟨R, hR⟩ : ∃ R, R = decide (RightP (id, ⟨s, u, tb⟩)) := ⟨_, rfl⟩
        have HRT := Lib.hid (refRight (id, ⟨s, u, tb⟩) w8)
        unfold rcv at HRT
        dsimp only at HRT
        rw [← hR] at HRT
        have HR := Lib.hid hR
        clear hR
        go_wp2_with fail
        refine HRT.out.mono ?_; rintro e w9 ⟨rfl, m9⟩
        have XT9 := Lib.hid (XT8.out.mod m9 (fun h => h))
        have XO9 := Lib.hid (XO8.out.mod m9 (fun h => h))
        have XN9 := Lib.hid (XN.out.mod m9 (fun h => h))
        have V9 := Lib.hid (V8.out.new m9)
        have M9 := Lib.hid (M8.out.trans m9)
        clear m9 x0 x1 x2 x3 XT8 XO8 XN V8 M8
        have x0 := XT9.out.cell 0; have x1 := XT9.out.cell 1; have x2 := XT9.out.cell 2; have x3 := XT9.out.cell 3
        have y0 := XO9.out.cell 0; have y1 := XO9.out.cell 1; have y2 := XO9.out.cell 2; have y3 := XO9.out.cell 3
        have z0 := XN9.out.cell 0; have z1 := XN9.out.cell 1; have z2 := XN9.out.cell 2; have z3 := XN9.out.cell 3
        by_cases hrt : RightP (id, ⟨s, u, tb⟩)
        · have hRv : R = true := by rw [HR.out]; exact decide_eq_true hrt
          subst hRv
          have hwk : WordOk (id, ⟨s, u, tb⟩) k := (word_right (by omega)).2 hrt
          by_cases h9 : id = 9
          · have e1 : B2 = 0 := by rw [HB2.out]; unfold hearB; rw [if_pos hwk, if_pos (by rw [hV.out.2.2]; exact h9)]
            have e2 : k2 = ka := by rw [HK2.out]; unfold hearK; rw [if_neg]; exact fun h => h.2.1 (by rw [hV.out.2.2]; exact h9)
            have e3 : o2 = o1 := by rw [HO2'.out, HO1.out, e2]
            have e4 : r2 = r1 := by rw [HR2.out, HR1.out, e2]
            have e5 : i2 = i1 := by rw [HI2.out, HI1.out, e2]
            have h9' : (id == 9) = true := by simpa using h9
            subst e1; subst e3; subst e4; subst e5
            clear e2 hrt hwk h9
            go_wp2_with fail
            exact ⟨⟨k + 1, S2, k2, by go_num, by omega, by omega, ⟨V9.out, HOK2.out, HS9.out⟩, M9.out⟩, by simp [intOf]; omega⟩
          · have h9' : (id == 9) = false := by simpa using h9
            have hsn : ¬ id = Sa.1 := by rw [hV.out.2.2]; exact h9
            have e1 : B2 = 0 := by rw [HB2.out]; unfold hearB; rw [if_pos hwk, if_neg hsn]
            have e6 : B1 = takes ka (id, ⟨s, u, tb⟩) := by rw [HB1.out]; unfold hearB; rw [if_pos hwk, if_neg hsn]
            have e7 : B1 = ((!o1 && !(u == 3)) || (o1 && decide (newP ⟨s, u, tb⟩ r1))) := by rw [e6, takes_eq, HO1.out, HR1.out]
            have e8 : (o2 && o1 && decide (r2.s < r1.s)) = false := by
              cases ho2 : o2 with
              | false => rfl
              | true =>
                cases ho1 : o1 with
                | false => rfl
                | true =>
                  simp only [Bool.true_and, decide_eq_false_iff_not]
                  cases ht : takes ka (id, ⟨s, u, tb⟩) with
                  | false =>
                    have e2 : k2 = ka := by rw [HK2.out]; unfold hearK; rw [if_neg]; rw [ht]; simp
                    have : r2 = r1 := by rw [HR2.out, HR1.out, e2]
                    rw [this]; omega
                  | true =>
                    have e2 : k2 = hearL most ka (id, ⟨s, u, tb⟩) k := by rw [HK2.out]; unfold hearK; rw [if_pos ⟨hwk, hsn, ht⟩]
                    have hn : newP ⟨s, u, tb⟩ r1 := by rw [e6, ht, ho1] at e7; simpa using e7
                    rcases lk_hear (most := most) (ks := ka) (m := (id, ⟨s, u, tb⟩)) (now := (k : Int)) with h | h
                    · have : o2 = false := by rw [HO2'.out, e2, h]; rfl
                      rw [ho2] at this; cases this
                    · have : r2 = ⟨s, u, k⟩ := by rw [HR2.out, e2]; unfold rd; rw [h]; rfl
                      rw [this]
                      unfold newP at hn
                      simp only at hn ⊢
                      omega
            have HE8 := Lib.hid e8
            subst e1
            clear e6 hrt hwk h9 hsn e8
            have HNW := Lib.hid (refNewer (id, ⟨s, u, tb⟩) (i1, r1) w9)
            unfold rcv at HNW
            dsimp only at HNW
            obtain ⟨NB, hNB⟩ : ∃ NB, NB = decide (newP ⟨s, u, tb⟩ r1) := ⟨_, rfl⟩
            rw [← hNB] at HNW e7
            have HE7 := Lib.hid e7
            clear e7 hNB
            cases ho1 : o1 with
            | true =>
              have e9 : B1 = NB := by have := HE7.out; rw [ho1] at this; simpa using this
              subst e9
              subst ho1
              go_wp2_with fail
              refine HNW.out.mono ?_; rintro e w10 ⟨rfl, m10⟩
              have V10 := Lib.hid (V9.out.new m10)
              have M10 := Lib.hid (M9.out.trans m10)
              have z1' := m10.cell z1 (fun h => h)
              have y1' := m10.cell y1 (fun h => h)
              clear m10 x0 x1 x2 x3 y0 y1 y2 y3 z0 z1 z2 z3
              cases ho2 : o2 with
              | true =>
                have e10 : decide (r2.s < r1.s) = false := by have := HE8.out; rw [ho2] at this; simpa using this
                subst ho2
                go_wp2_with fail
                exact ⟨⟨k + 1, S2, k2, by go_num, by omega, by omega, ⟨V10.out, HOK2.out, HS9.out⟩, M10.out⟩, by simp [intOf]; omega⟩
              | false =>
                subst ho2
                go_wp2_with fail
                exact ⟨⟨k + 1, S2, k2, by go_num, by omega, by omega, ⟨V10.out, HOK2.out, HS9.out⟩, M10.out⟩, by simp [intOf]; omega⟩
            | false =>
              have e9 : B1 = !(u == 3) := by have := HE7.out; rw [ho1] at this; simpa using this
              subst ho1
              by_cases hu3 : u = 3
              · have hu3' : (u == 3) = true := by simpa using hu3
                have hu3n : (u != 3) = false := by simp [hu3]
                have e10 : B1 = false := by rw [e9, hu3']; rfl
                subst e10
                clear e9 hu3
                cases ho2 : o2 <;> subst ho2 <;> (
                  go_wp2_with fail
                  exact ⟨⟨k + 1, S2, k2, by go_num, by omega, by omega, ⟨V9.out, HOK2.out, HS9.out⟩, M9.out⟩, by simp [intOf]; omega⟩)
              · have hu3' : (u == 3) = false := by simpa using hu3
                have hu3n : (u != 3) = true := by simp [hu3]
                have e10 : B1 = true := by rw [e9, hu3']; rfl
                subst e10
                clear e9 hu3
                cases ho2 : o2 <;> subst ho2 <;> (
                  go_wp2_with fail
                  exact ⟨⟨k + 1, S2, k2, by go_num, by omega, by omega, ⟨V9.out, HOK2.out, HS9.out⟩, M9.out⟩, by simp [intOf]; omega⟩)
        · have hRv : R = false := by rw [HR.out]; exact decide_eq_false hrt
          subst hRv
          have hwk : ¬ WordOk (id, ⟨s, u, tb⟩) k := fun h => hrt ((word_right (by omega)).1 h)
          have e1 : B2 = 1 := by rw [HB2.out]; unfold hearB; rw [if_neg hwk]
          have e2 : k2 = ka := by rw [HK2.out]; unfold hearK; rw [if_neg]; exact fun h => hwk h.1
          have e3 : o2 = o1 := by rw [HO2'.out, HO1.out, e2]
          have e4 : r2 = r1 := by rw [HR2.out, HR1.out, e2]
          have e5 : i2 = i1 := by rw [HI2.out, HI1.out, e2]
          subst e1; subst e3; subst e4; subst e5
          clear e2 hrt hwk
          go_wp2_with fail
          exact ⟨⟨k + 1, S2, k2, by go_num, by omega, by omega, ⟨V9.out, HOK2.out, HS9.out⟩, M9.out⟩, by simp [intOf]; omega⟩
      · have hend : (k : Int) < len1 → ¬ (k : Int) < 100 := by omega
        have HAL := Lib.hid (memAll ba Ma Sa most ka wr hV.out.1 (by have := hV.out.2.1.len; have := HM64.out; omega) hV.out.2.1.i64)
        have hkl : (ka.length : Int) ≤ most := hV.out.2.1.len
        by_cases h6 : (k : Int) < len1
        · have h7 : ¬ (k : Int) < 100 := hend h6
          clear hend
          go_wp2_with fail
          refine HAL.out.mono ?_; rintro e w4 ⟨⟨v4, rfl, o4⟩, m4⟩
          obtain ⟨a4, cap4, rfl, _, _, _⟩ := o4.els
          clear o4
          go_wp2_with fail
          go_ret
          exact ⟨rfl, hm.trans m4⟩
        · clear hend
          go_wp2_with fail
          refine HAL.out.mono ?_; rintro e w4 ⟨⟨v4, rfl, o4⟩, m4⟩
          obtain ⟨a4, cap4, rfl, _, _, _⟩ := o4.els
          clear o4
          go_wp2_with fail
          go_ret
          exact ⟨rfl, hm.trans m4⟩
  · have HOK := Lib.hid hok
    clear hok
    go_enter Try.func4, Try.ntmps4
    go_wp2_with fail
    refine (awake12 _).mono ?_; rintro e w1 ⟨rfl, m1⟩
    go_wp2_with fail
    refine (memNewBad 9 most _ HOK.out).mono ?_; rintro e w' ⟨rfl, rfl⟩
    go_wp2_with fail
    go_ret
    exact ⟨rfl, m1⟩
end Go.Proofs.Ytagiodagbfahpaa
