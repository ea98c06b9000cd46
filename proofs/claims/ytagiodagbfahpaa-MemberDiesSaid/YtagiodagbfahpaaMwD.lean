/- The walk of the statement MemberDies: the call returns true and turns nothing that was there; no condition. -/
import Derived.Test.YtagiodagbfahpaaMbT
import Derived.Test.YtagiodagbfahpaaMcO
namespace Go.Proofs.Ytagiodagbfahpaa
open Go Go.RowKit

theorem put_nil (id : Int) (r : Rc) : putL [] id r = [(id, r)] := rfl
theorem put_one (id : Int) (o r : Rc) : putL [(id, o)] id r = [(id, r)] := by simp [putL, delL, insS]
theorem lk_one (id : Int) (o : Rc) : lkL [(id, o)] id = some o := by simp [lkL]
theorem cut_one {most : Int} (q : Int × Rc) (h : 1 ≤ most) : cutX most [q] = [q] := by unfold cutX; rw [if_neg]; simp; omega
theorem hear_nil {S m : Int × Rc} {most now : Int} (hw : WordOk m now) (hs : ¬ m.1 = S.1) (hu : m.2.u ≠ 3) (hm : 1 ≤ most) : hearK S most [] m now = [(m.1, ⟨m.2.s, m.2.u, now⟩)] := by
  unfold hearK
  rw [if_pos ⟨hw, hs, by unfold takes; simpa [lkL] using hu⟩]
  unfold hearL
  rw [put_nil, cut_one _ hm]
theorem hear_one {S m : Int × Rc} {most now : Int} {o : Rc} (hw : WordOk m now) (hs : ¬ m.1 = S.1) (hn : newP m.2 o) (hm : 1 ≤ most) : hearK S most [(m.1, o)] m now = [(m.1, ⟨m.2.s, m.2.u, now⟩)] ∧ hearB S [(m.1, o)] m now = (true, 0) := by
  have ht : takes [(m.1, o)] m = true := by unfold takes; rw [lk_one]; simpa using hn
  constructor
  · unfold hearK
    rw [if_pos ⟨hw, hs, ht⟩]
    unfold hearL
    rw [put_one, cut_one _ hm]
  · unfold hearB
    rw [if_pos hw, if_neg hs, ht]
theorem self_other {S m : Int × Rc} {now : Int} (hs : ¬ m.1 = S.1) : hearSelf S m now = S := by unfold hearSelf; rw [if_neg]; exact fun h => hs h.2
theorem fail_one {id now s b : Int} (hn : 0 ≤ now ∧ now ≤ 1099511627776) : failK [(id, ⟨s, 1, b⟩)] id now = [(id, ⟨s, 2, now⟩)] ∧ failR [(id, ⟨s, 1, b⟩)] id now = (true, 0) := by
  unfold failK failR
  rw [if_pos hn, if_pos hn, lk_one]
  simp [put_one]
theorem tick_one (now pat : Int) (q : Int × Rc) : tickL now pat [q] = tick1 now pat q := by simp [tickL]
theorem ok_one {id s u b : Int} (h : 1 ≤ id ∧ id ≤ 65536 ∧ 0 ≤ s ∧ s ≤ 1073741824 ∧ 1 ≤ u ∧ u ≤ 3 ∧ 0 ≤ b ∧ b ≤ 1099511627776) : OkV 4 [(id, ⟨s, u, b⟩)] := ⟨List.pairwise_singleton _ _, by simp, by simpa using h⟩

set_option maxRecDepth 100000 in
set_option maxHeartbeats 4000000 in
theorem memberDies_walk (id now pat : Int) (w : World) (_ : (Lit.int .i64 id).wf = true) (_ : (Lit.int .i64 now).wf = true) (_ : (Lit.int .i64 pat).wf = true) :
    Calls Try.prog 5 #[.int .i64 id, .int .i64 now, .int .i64 pat] w fun e w' => e = .returned (.bool true) ∧ Below w.heap.size w w' := by
  refine Calls.mono (R := fun e w' => e = .returned (.bool true) ∧ Mod (fun _ => False) w w') ?_ (fun e w' ⟨h1, h2⟩ => ⟨h1, h2.bel⟩)
  by_cases hin : 2 ≤ id ∧ id ≤ 65536 ∧ 0 ≤ now ∧ now ≤ 1073741824 ∧ 1 ≤ pat ∧ pat ≤ 1048576
  · obtain ⟨b1, b2, b3, b4, b5, b6⟩ := hin
    have HIN : Hid (2 ≤ id ∧ id ≤ 65536 ∧ 0 ≤ now ∧ now ≤ 1073741824 ∧ 1 ≤ pat ∧ pat ≤ 1048576) := ⟨b1, b2, b3, b4, b5, b6⟩
    obtain ⟨t1, ht1⟩ : ∃ t, t = now + pat - 1 := ⟨_, rfl⟩
    obtain ⟨t2, ht2⟩ : ∃ t, t = now + pat := ⟨_, rfl⟩
    obtain ⟨t3, ht3⟩ : ∃ t, t = now + 2 * pat := ⟨_, rfl⟩
    obtain ⟨t4, ht4⟩ : ∃ t, t = now + 6 * pat - 1 := ⟨_, rfl⟩
    obtain ⟨t5, ht5⟩ : ∃ t, t = now + 6 * pat := ⟨_, rfl⟩
    have HTS : Hid (t1 = now + pat - 1 ∧ t2 = now + pat ∧ t3 = now + 2 * pat ∧ t4 = now + 6 * pat - 1 ∧ t5 = now + 6 * pat) := ⟨ht1, ht2, ht3, ht4, ht5⟩
    have hI : I64 id := i64_of (by omega) (by omega)
    have HI := Lib.hid hI
    have hne : ¬ id = 1 := by omega
    have HNE := Lib.hid hne
    -- what each step leaves
    have K1 := Lib.hid (hear_nil (S := (1, ⟨0, 1, 0⟩)) (m := (id, ⟨3, 1, 0⟩)) (most := 4) (now := now) (by unfold WordOk; simp only; omega) hne (by simp) (by decide))
    have S1 := Lib.hid (self_other (S := (1, ⟨0, 1, 0⟩)) (m := (id, ⟨3, 1, 0⟩)) (now := now) hne)
    have K2 := Lib.hid (fail_one (id := id) (now := now) (s := 3) (b := now) ⟨by omega, by omega⟩)
    have K3 : Hid (tickL t1 pat [(id, ⟨3, 2, now⟩)] = [(id, ⟨3, 2, now⟩)] ∧ fallen t1 pat [(id, ⟨3, 2, now⟩)] = []) := by
      have hf : fell t1 pat (id, ⟨3, 2, now⟩) = false := by unfold fell; simp; omega
      show _ ∧ _
      rw [tick_one]
      unfold tick1 fallen
      rw [hf]
      constructor
      · rw [if_neg (by unfold gone; simp), if_neg (by simp)]
      · rw [List.filter_cons, hf]; rfl
    have K4 : Hid (tickL t2 pat [(id, ⟨3, 2, now⟩)] = [(id, ⟨3, 3, t2⟩)] ∧ fallen t2 pat [(id, ⟨3, 2, now⟩)] = [id]) := by
      have hf : fell t2 pat (id, ⟨3, 2, now⟩) = true := by unfold fell; simp; omega
      show _ ∧ _
      rw [tick_one]
      unfold tick1 fallen
      rw [hf]
      constructor
      · rw [if_neg (by unfold gone; simp), if_pos rfl]
      · rw [List.filter_cons, hf]; rfl
    have K5 := Lib.hid (hear_one (S := (1, ⟨0, 1, 0⟩)) (m := (id, ⟨4, 1, 0⟩)) (most := 4) (now := t2) (o := ⟨3, 3, t2⟩) (by unfold WordOk; simp only; omega) hne (by unfold newP; simp only; omega) (by decide))
    have S5 := Lib.hid (self_other (S := (1, ⟨0, 1, 0⟩)) (m := (id, ⟨4, 1, 0⟩)) (now := t2) hne)
    have K6 := Lib.hid (fail_one (id := id) (now := t2) (s := 4) (b := t2) ⟨by omega, by omega⟩)
    have K7 : Hid (tickL t3 pat [(id, ⟨4, 2, t2⟩)] = [(id, ⟨4, 3, t3⟩)]) := by
      have hf : fell t3 pat (id, ⟨4, 2, t2⟩) = true := by unfold fell; simp; omega
      show _ = _
      rw [tick_one]
      unfold tick1
      rw [hf, if_neg (by unfold gone; simp), if_pos rfl]
    have K8 : Hid (tickL t4 pat [(id, ⟨4, 3, t3⟩)] = [(id, ⟨4, 3, t3⟩)]) := by
      show _ = _
      rw [tick_one]
      unfold tick1
      rw [if_neg (by unfold gone; simp; omega), if_neg (by unfold fell; simp)]
    have K9 : Hid (tickL t5 pat [(id, ⟨4, 3, t3⟩)] = []) := by
      show _ = _
      rw [tick_one]
      unfold tick1
      rw [if_pos (by unfold gone; simp; omega)]
    have hw1 : now + pat = t2 := ht2.symm
    have hw2 : t2 - 1 = t1 := by omega
    have hw3 : now + 2 * pat = t3 := ht3.symm
    have hw5 : now + 6 * pat = t5 := ht5.symm
    have hw6 : t5 - 1 = t4 := by omega
    have HR : Hid ((0 ≤ t1 ∧ t1 ≤ 1099511627776) ∧ (0 ≤ t2 ∧ t2 ≤ 1099511627776) ∧ (0 ≤ t3 ∧ t3 ≤ 1099511627776) ∧ (0 ≤ t4 ∧ t4 ≤ 1099511627776) ∧ (0 ≤ t5 ∧ t5 ≤ 1099511627776)) := by
      show (_ ∧ _) ∧ (_ ∧ _) ∧ (_ ∧ _) ∧ (_ ∧ _) ∧ (_ ∧ _); omega
    have hpp : 1 ≤ pat ∧ pat ≤ 1048576 := ⟨b5, b6⟩
    have HPP := Lib.hid hpp
    clear ht1 ht2 ht3 ht4 ht5 hI hne hpp
    have g1 : decide (id < 2) = false := by simp; omega
    go_enter Try.func5, Try.ntmps5
    go_wp2_with fail
    refine (awake12 _).mono ?_; rintro e w1 ⟨rfl, m1⟩
    have M1 := Lib.hid m1
    clear m1
    go_wp2_with fail
    refine (memNew 1 4 _ (by decide)).mono ?_; rintro e w2 ⟨rfl, va, m2, s2⟩
    have VA := Lib.hid va
    have M2 := Lib.hid (M1.out.trans m2)
    clear va m2
    obtain ⟨ba, hba⟩ : ∃ b, b = w1.heap.size + 1 := ⟨_, rfl⟩
    obtain ⟨Ma, hMa⟩ : ∃ b, b = w1.heap.size := ⟨_, rfl⟩
    have hz := M1.out.size
    have HN : Hid (w.heap.size ≤ ba ∧ w.heap.size ≤ Ma) := by show _ ∧ _; omega
    rw [← hba, ← hMa] at VA
    rw [← hba]
    clear hba hMa s2 hz M1
    have HH := Lib.hid (memHear (id, ⟨3, 1, 0⟩) now ba Ma (1, ⟨0, 1, 0⟩) 4 [] w2 VA.out (OkV.nil 4 (by decide)) (by decide))
    unfold rcv at HH
    dsimp only at HH
    rw [K1.out, S1.out] at HH
    go_wp2_with fail
    refine HH.out.mono ?_; rintro e w3 ⟨rfl, v3, m3⟩
    have V3 := Lib.hid v3
    have M3 := Lib.hid (M2.out.new m3 (by intro i hi; have := HN.out; omega))
    clear v3 m3 HH
    have HF := Lib.hid (memFail id now ba Ma (1, ⟨0, 1, 0⟩) 4 _ w3 V3.out HI.out (by simp))
    rw [K2.out.1, K2.out.2] at HF
    go_wp2_with fail
    refine HF.out.mono ?_; rintro e w4 ⟨rfl, v4, m4⟩
    have V4 := Lib.hid v4
    have M4 := Lib.hid (M3.out.new m4 (by intro i hi; have := HN.out; omega))
    clear v4 m4 HF
    have HT := Lib.hid (memTick t1 pat ba Ma (1, ⟨0, 1, 0⟩) 4 _ w4 V4.out (ok_one (by have := HIN.out; omega)) (by decide) HR.out.1 HPP.out)
    rw [K3.out.1, K3.out.2] at HT
    go_wp2_with fail
    refine HT.out.mono ?_; rintro e w5 ⟨⟨u5, rfl, o5⟩, v5, m5⟩
    obtain ⟨a5, k5, rfl, _, _, _⟩ := o5.els
    have V5 := Lib.hid v5
    have M5 := Lib.hid (M4.out.new m5 (by intro i hi; have := HN.out; omega))
    clear v5 m5 HT o5
    have HT := Lib.hid (memTick t2 pat ba Ma (1, ⟨0, 1, 0⟩) 4 _ w5 V5.out (ok_one (by have := HIN.out; omega)) (by decide) HR.out.2.1 HPP.out)
    rw [K4.out.1, K4.out.2] at HT
    go_wp2_with fail
    refine HT.out.mono ?_; rintro e w6 ⟨⟨u6, rfl, o6⟩, v6, m6⟩
    obtain ⟨a6, k6, rfl, _, e6, l6⟩ := o6.els
    have L5 := V5.out.lt
    have V6 := Lib.hid v6
    have M6 := Lib.hid (M5.out.new m6 (by intro i hi; have := HN.out; omega))
    obtain ⟨Y, rfl, y0, _⟩ := e6 0 (by simp)
    have HYB := Lib.hid (show Y.block ≠ ba ∧ Y.block ≠ Ma by have := l6 Y rfl; omega)
    have HY := Lib.hid (show w6.cell? Y = some (.int .i64 id) by have := y0 (.int .i64 id) (by simp); simpa [Addr.add] using this)
    clear v6 m6 HT o6 y0 l6 L5
    have HO := Lib.hid (memOf id ba Ma (1, ⟨0, 1, 0⟩) 4 _ w6 HI.out V6.out)
    rw [show rd [(id, (⟨3, 3, t2⟩ : Rc))] id = ⟨3, 3, t2⟩ by unfold rd; rw [lk_one]; rfl, show idf [(id, (⟨3, 3, t2⟩ : Rc))] id = id by unfold idf; rw [lk_one]; rfl, lk_one] at HO
    dsimp only [Option.isSome] at HO
    go_wp2_with fail
    refine HO.out.mono ?_; rintro e w7 ⟨rfl, m7⟩
    have ma := m7.alloc (.cells #[.int .i64 id, .int .i64 3, .int .i64 3, .int .i64 t2] TMb)
    have XM := Lib.hid (Blk.new w7 #[.int .i64 id, .int .i64 3, .int .i64 3, .int .i64 t2] TMb)
    have V8 := Lib.hid (V6.out.new ma)
    have M8 := Lib.hid (M6.out.trans ma)
    have HMB : Hid (ba < w7.heap.size ∧ Ma < w7.heap.size ∧ w.heap.size ≤ w7.heap.size) := by
      have := V6.out.lt
      have := m7.size
      have := M6.out.size
      show _ ∧ _ ∧ _
      omega
    have HY8 := Lib.hid (ma.cell HY.out (fun h => h))
    clear m7 ma HO
    have HH := Lib.hid (memHear (id, ⟨4, 1, 0⟩) t2 ba Ma (1, ⟨0, 1, 0⟩) 4 _ _ V8.out (ok_one (by have := HIN.out; have := HR.out; omega)) (by decide))
    unfold rcv at HH
    dsimp only at HH
    rw [K5.out.1, K5.out.2, S5.out] at HH
    go_wp2_with fail
    refine HH.out.mono ?_; rintro e w9 ⟨rfl, v9, m9⟩
    have V9 := Lib.hid v9
    have M9 := Lib.hid (M8.out.new m9 (by intro i hi; have := HN.out; omega))
    have XM9 := Lib.hid (XM.out.mod m9 (by have := HMB.out; omega))
    have HY9 := Lib.hid (m9.cell HY8.out (by have := HYB.out; omega))
    clear v9 m9 HH
    have HO := Lib.hid (memOf id ba Ma (1, ⟨0, 1, 0⟩) 4 _ w9 HI.out V9.out)
    rw [show rd [(id, (⟨4, 1, t2⟩ : Rc))] id = ⟨4, 1, t2⟩ by unfold rd; rw [lk_one]; rfl, show idf [(id, (⟨4, 1, t2⟩ : Rc))] id = id by unfold idf; rw [lk_one]; rfl, lk_one] at HO
    dsimp only [Option.isSome] at HO
    go_wp2_with fail
    refine HO.out.mono ?_; rintro e w10 ⟨rfl, m10⟩
    have ma := m10.alloc (.cells #[.int .i64 id, .int .i64 4, .int .i64 1, .int .i64 t2] TMb)
    have XN := Lib.hid (Blk.new w10 #[.int .i64 id, .int .i64 4, .int .i64 1, .int .i64 t2] TMb)
    have V11 := Lib.hid (V9.out.new ma)
    have M11 := Lib.hid (M9.out.trans ma)
    have XM11 := Lib.hid (XM9.out.mod ma (fun h => h))
    have HY11 := ma.cell HY9.out (fun h => h)
    have xm2 := XM11.out.cell 2
    clear m10 ma HO
    have HF := Lib.hid (memFail id t2 ba Ma (1, ⟨0, 1, 0⟩) 4 _ _ V11.out HI.out (by simp))
    rw [K6.out.1, K6.out.2] at HF
    go_wp2_with fail
    refine HF.out.mono ?_; rintro e w12 ⟨rfl, v12, m12⟩
    have V12 := Lib.hid v12
    have M12 := Lib.hid (M11.out.new m12 (by intro i hi; have := HN.out; omega))
    clear v12 m12 HF HY11 xm2
    have HT := Lib.hid (memTick t3 pat ba Ma (1, ⟨0, 1, 0⟩) 4 _ w12 V12.out (ok_one (by have := HIN.out; have := HR.out; omega)) (by decide) HR.out.2.2.1 HPP.out)
    rw [K7.out] at HT
    go_wp2_with fail
    refine HT.out.mono ?_; rintro e w13 ⟨⟨u13, rfl, o13⟩, v13, m13⟩
    have V13 := Lib.hid v13
    have M13 := Lib.hid (M12.out.new m13 (by intro i hi; have := HN.out; omega))
    clear v13 m13 HT o13
    have HT := Lib.hid (memTick t4 pat ba Ma (1, ⟨0, 1, 0⟩) 4 _ w13 V13.out (ok_one (by have := HIN.out; have := HR.out; omega)) (by decide) HR.out.2.2.2.1 HPP.out)
    rw [K8.out] at HT
    go_wp2_with fail
    refine HT.out.mono ?_; rintro e w14 ⟨⟨u14, rfl, o14⟩, v14, m14⟩
    have V14 := Lib.hid v14
    have M14 := Lib.hid (M13.out.new m14 (by intro i hi; have := HN.out; omega))
    clear v14 m14 HT o14
    have HO := Lib.hid (memOf id ba Ma (1, ⟨0, 1, 0⟩) 4 _ w14 HI.out V14.out)
    rw [show rd [(id, (⟨4, 3, t3⟩ : Rc))] id = ⟨4, 3, t3⟩ by unfold rd; rw [lk_one]; rfl, show idf [(id, (⟨4, 3, t3⟩ : Rc))] id = id by unfold idf; rw [lk_one]; rfl, lk_one] at HO
    dsimp only [Option.isSome] at HO
    go_wp2_with fail
    refine HO.out.mono ?_; rintro e w15 ⟨rfl, m15⟩
    have ma := m15.alloc (.cells #[.int .i64 id, .int .i64 4, .int .i64 3, .int .i64 t3] TMb)
    have V15 := Lib.hid (V14.out.new ma)
    have M15 := Lib.hid (M14.out.trans ma)
    clear m15 ma HO
    have HT := Lib.hid (memTick t5 pat ba Ma (1, ⟨0, 1, 0⟩) 4 _ _ V15.out (ok_one (by have := HIN.out; have := HR.out; omega)) (by decide) HR.out.2.2.2.2 HPP.out)
    rw [K9.out] at HT
    go_wp2_with fail
    refine HT.out.mono ?_; rintro e w16 ⟨⟨u16, rfl, o16⟩, v16, m16⟩
    have V16 := Lib.hid v16
    have M16 := Lib.hid (M15.out.new m16 (by intro i hi; have := HN.out; omega))
    clear v16 m16 HT o16
    have HO := Lib.hid (memOf id ba Ma (1, ⟨0, 1, 0⟩) 4 [] w16 HI.out V16.out)
    rw [show (lkL ([] : List (Int × Rc)) id).isSome = false from rfl] at HO
    go_wp2_with fail
    refine HO.out.mono ?_; rintro e w17 ⟨rfl, m17⟩
    have M17 := Lib.hid (M16.out.trans (m17.alloc (.cells #[.int .i64 (idf [] id), .int .i64 (rd [] id).s, .int .i64 (rd [] id).u, .int .i64 (rd [] id).b] TMb)))
    clear m17
    go_wp2_with fail
    go_ret
    exact ⟨rfl, M17.out⟩
  · have HIN := Lib.hid hin
    clear hin
    go_enter Try.func5, Try.ntmps5
    go_wp2_with fail
    refine (awake12 _).mono ?_; rintro e w1 ⟨rfl, m1⟩
    have M1 := Lib.hid m1
    clear m1
    go_wp2_with fail
    refine (memNew 1 4 _ (by decide)).mono ?_; rintro e w2 ⟨rfl, va, m2, s2⟩
    have M2 := Lib.hid (M1.out.trans m2)
    clear va m2
    go_wp2_with fail
    all_goals first | (go_ret; exact ⟨rfl, M2.out⟩) | (exfalso; apply HIN.out; omega)
end Go.Proofs.Ytagiodagbfahpaa
