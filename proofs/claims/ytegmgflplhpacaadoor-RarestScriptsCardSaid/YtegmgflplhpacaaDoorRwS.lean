/- The walk of the statement RarestScripts: the call returns true and turns nothing that was there; no condition but the table. -/
import Derived.Test.YtegmgflplhpacaaDoorRcD
namespace Go.Proofs.YtegmgflplhpacaaDoor
open Go Go.RowKit

theorem Sl.ex {w w' : World} {v : Value} {size n : Nat} {xs : List Value} (h : Sl w v size n xs) (hx : Ex w w') : Sl w' v size n xs := h.keep fun _ _ hp _ => hx.cell hp
theorem reg_skip {P : Program} {ops : Array Oper} {S : World → Prop} {ov : List (Nat × Nat)} {rd : List FuncId} {Q : World → Act → Prop} {i : Nat} {o : Oper} {rest : List Oper} {w : World} {a : Act} (hw : Region.wanted o (yielded ops a.tmps) = false)
    (h : wpReg P ops S ov rd Q (i + 1) rest w (a.put o.dst undef)) : wpReg P ops S ov rd Q i (o :: rest) w a := by
  rw [wpReg_cons]
  unfold op2
  rw [if_neg (by rw [hw]; decide)]
  exact h
theorem upto_all {f : Nat → Bool} {n : Nat} (h : ∀ j, n ≤ j → f j = false) : upto f n = f := by
  funext x
  unfold upto
  by_cases hx : x < n
  · simp [hx]
  · rw [h x (by omega)]; simp
set_option maxRecDepth 100000 in
set_option maxHeartbeats 4000000 in
theorem rarestScripts_walk (p most : Int) (a1 : Option Addr) (len1 cap1 : Nat) (l : List Sb) (w : World) (hT : TabW w) (_ : (Lit.int .i64 p).wf = true) (_ : (Lit.int .i64 most).wf = true) (hl : IsSbs w a1 len1 l) :
    Calls Tryd.prog 6 #[.int .i64 p, .int .i64 most, .slice a1 len1 cap1] w fun e w' => e = .returned (.bool true) ∧ Below w.heap.size w w' := by
  refine Calls.mono (R := fun e w' => e = .returned (.bool true) ∧ Mod (fun _ => False) w w') ?_ (fun e w' ⟨h1, h2⟩ => ⟨h1, h2.bel⟩)
  have HL := Lib.hid hl
  have HT := Lib.hid hT
  have HAW := Lib.hid (awake13 w hT)
  have hll : (len1 : Int) ≤ 9223372036854775807 := hl.2.1
  clear hl hT
  by_cases hp0 : 200 < p ∧ p ≤ 1024
  · obtain ⟨hp1, hp2⟩ := hp0
    go_enter Tryd.func6, Tryd.ntmps6
    go_wp2_with fail
    refine HAW.out.mono ?_; rintro e w1 ⟨rfl, m1⟩
    go_wp2_with fail
    go_ret
    exact ⟨rfl, m1⟩
  · have hp1 : 200 < p → ¬ p ≤ 1024 := fun h1 h2 => hp0 ⟨h1, h2⟩
    clear hp0
    by_cases hok : BoardOk p most
    · obtain ⟨n, rfl⟩ : ∃ n : Nat, p = (n : Int) := ⟨p.toNat, by unfold BoardOk at hok; omega⟩
      have HOKB := Lib.hid hok
      have h200 : ¬ (200 : Int) < n := by unfold BoardOk at hok; intro h; have := hp1 h; omega
      clear hok hp1
      go_enter Tryd.func6, Tryd.ntmps6
      go_wp2_with fail
      refine HAW.out.mono ?_; rintro e w1 ⟨rfl, m1⟩
      have M1 := Lib.hid m1
      have HT1 := Lib.hid (HT.out.mod m1 (fun h => h))
      clear m1 HAW
      have HRN := Lib.hid (rareNew n most w1 HOKB.out HT1.out)
      go_wp2_with fail
      refine HRN.out.mono ?_; rintro e w2 ⟨rfl, h2, m2, z2⟩
      obtain ⟨b, hb⟩ : ∃ b, b = w1.heap.size + 2 := ⟨_, rfl⟩
      obtain ⟨M, hM⟩ : ∃ b, b = w1.heap.size := ⟨_, rfl⟩
      obtain ⟨g, hg⟩ : ∃ b, b = w1.heap.size + 1 := ⟨_, rfl⟩
      rw [← hb, ← hg, ← hM] at h2
      rw [← hb]
      have HLO : Hid (w.heap.size ≤ b ∧ w.heap.size ≤ M ∧ w.heap.size ≤ g) := by have := M1.out.size; show _ ∧ _ ∧ _; omega
      have H2 := Lib.hid h2
      have M2 := Lib.hid (M1.out.trans m2)
      clear hb hM hg h2 m2 z2 HRN M1 HT1
      have HRN := Lib.hid (refRNew n most w2 HOKB.out)
      go_wp2_with fail
      refine HRN.out.mono ?_; rintro e w3 ⟨rfl, h3, m3, z3⟩
      have TW := Lib.hid (TwoP.start HOKB.out HT.out H2.out M2.out HLO.out h3 rfl m3 z3)
      have M3 := Lib.hid (M2.out.trans m3)
      obtain ⟨b', hb'⟩ : ∃ b, b = w2.heap.size := ⟨_, rfl⟩
      rw [← hb'] at TW ⊢
      clear hb' h3 m3 z3 HRN H2 M2 HLO
      go_wp2_with fail
      go_loopw [12] (fun v wr => ∃ (k : Nat) (L : LB), v = .int .i64 k ∧ k ≤ len1 ∧ k ≤ 100 ∧ Hid (TwoP wr w.heap.size b b' n most L) ∧ Mod (fun _ => False) w wr) (fun v _ => 100 - (intOf v).toNat)
      case atStart => exact ⟨0, [], rfl, Nat.zero_le _, Nat.zero_le _, TW, M3.out⟩
      case round =>
        obtain ⟨k, L, rfl, hk, hk100, hB, hm⟩ := hrel
        by_cases hlt : k < len1 ∧ k < 100
        · obtain ⟨hlt1, hlt2⟩ := hlt
          have hlt2' : (k : Int) < 100 := by omega
          obtain ⟨t, ht⟩ : ∃ t, l[k]? = some t := ⟨_, List.getElem?_eq_getElem (by rw [HL.out.1]; exact hlt1)⟩
          obtain ⟨hot, X, rfl, c0, c1, c2, c3, c4⟩ := (HL.out.below hm.bel).2.2 k t ht
          have HO := Lib.hid hot
          have HTT := Lib.hid ht
          have HM := Lib.hid hm
          have hlt1' : (k : Int) < len1 := by omega
          clear ht hot hm
          have HST := Lib.hid (step13 t w.heap.size b b' n most L wr hB.out HO.out)
          go_wp2_with fail
          refine HST.out.mono ?_; rintro e w5 ⟨rfl, b5, m5⟩
          have hm5 : Mod (fun _ => False) w w5 := HM.out.new m5 (fun i hi => hi)
          obtain ⟨L5, hL5⟩ : ∃ x, x = stepA n most L t := ⟨_, rfl⟩
          rw [← hL5] at b5
          have B5 := Lib.hid b5
          have HM5 := Lib.hid hm5
          clear b5 m5 hm5 hL5 hB HM HST c0 c1 c2 c3 c4
          have HP := Lib.hid (twoPeers B5.out)
          have hlen7 : L5.length ≤ 64 := B5.out.ok.2.2.2.2
          go_wp2_with fail
          refine HP.out.mono ?_; rintro e w6 ⟨v6, rfl, o6, m6⟩
          have O6 := Lib.hid o6
          have B6 := Lib.hid (B5.out.new m6)
          have HM6 := Lib.hid (HM5.out.trans m6)
          have HP2 := Lib.hid (twoRPeers B6.out)
          clear o6 m6 B5 HM5 HP
          go_wp2_with fail
          refine HP2.out.mono ?_; rintro e w7 ⟨v7, rfl, o7, m7⟩
          have HSM := Lib.hid (same10 v6 v7 (keysL L5) (keysL L5).length w7 (owns_new O6.out m7).sl o7.sl (by simp [keysL]; omega))
          have B7 := Lib.hid (B6.out.new m7)
          have HM7 := Lib.hid (HM6.out.trans m7)
          clear o7 m7 B6 HM6 O6 HP2
          go_wp2_with fail
          refine HSM.out.mono ?_; rintro e w8 ⟨rfl, m8⟩
          have B5 := Lib.hid (B7.out.new m8)
          have HM5 := Lib.hid (HM7.out.trans m8)
          clear m8 B7 HM7 HSM
          cases hof : lkL L5 t.p with
          | none =>
            have HOF := Lib.hid (twoOfNo B5.out HO.out.i hof)
            have HRF := Lib.hid (twoROfNo B5.out hof)
            have HC := Lib.hid (fun q => twoHow (B5.out.new ((Mod.refl (fun _ => False) w8).drewN q)) t.n)
            have HRC := Lib.hid (fun q => twoRHow (B5.out.new ((Mod.refl (fun _ => False) w8).drewN q)) t.n)
            obtain ⟨cv, hcv⟩ : ∃ x, x = cntR (cF L5) n t.n := ⟨_, rfl⟩
            rw [← hcv] at HC HRC
            clear hof hcv
            obtain ⟨_, X', hX', c0, c1, c2, c3, c4⟩ := (HL.out.below HM5.out.bel).2.2 k t HTT.out
            cases hX'
            clear c0 c3 c4
            go_wp2_with fail
            refine HOF.out.mono ?_; rintro e w9 ⟨rfl, rfl⟩
            go_wp2_with fail
            refine HRF.out.mono ?_; rintro e w9 ⟨rfl, rfl⟩
            go_wp2_with fail
            refine wp_region2 [] [13, 24] (by kernel_rfl) (by kernel_rfl) ?_
            repeat (first | (refine reg_anyT (by rfl) (fun K hK => ?_); go_simp; refine hK _ _ ?_; clear hK K) | (refine reg_read (by rfl) (fun K hK => ?_); go_simp; refine hK _ _ ?_; clear hK K))
            refine reg_read (by rfl) (fun K hK => ?_); go_simp
            refine ⟨_, fun rn => rd_same (HC.out _), hK _ _ ?_⟩; clear hK K
            repeat (first | (refine reg_anyT (by rfl) (fun K hK => ?_); go_simp; refine hK _ _ ?_; clear hK K) | (refine reg_read (by rfl) (fun K hK => ?_); go_simp; refine hK _ _ ?_; clear hK K))
            refine reg_read (by rfl) (fun K hK => ?_); go_simp
            refine ⟨_, fun rn => rd_same (HRC.out _), hK _ _ ?_⟩; clear hK K
            repeat (first | (refine reg_anyT (by rfl) (fun K hK => ?_); go_simp; refine hK _ _ ?_; clear hK K) | (refine reg_read (by rfl) (fun K hK => ?_); go_simp; refine hK _ _ ?_; clear hK K))
            refine reg_nil (fun nd => ?_)
            clear c1 c2
            go_wp2_with fail
            refine wp_region2 [(4, 4), (5, 3), (7, 4), (8, 3)] [] (by kernel_rfl) (by kernel_rfl) ?_
            repeat (first | (refine reg_anyT (by rfl) (fun K hK => ?_); go_simp; refine hK _ _ ?_; clear hK K) | (refine reg_read (by rfl) (fun K hK => ?_); go_simp; refine hK _ _ ?_; clear hK K))
            repeat (refine reg_skip (by rfl) ?_)
            repeat (first | (refine reg_anyT (by rfl) (fun K hK => ?_); go_simp; refine hK _ _ ?_; clear hK K) | (refine reg_read (by rfl) (fun K hK => ?_); go_simp; refine hK _ _ ?_; clear hK K))
            refine reg_nil (fun ne => ?_)
            have md := (Mod.refl (fun _ => False) w8).drewN (nd + ne)
            have B14 := Lib.hid (B5.out.new md)
            have M14 := Lib.hid (HM5.out.trans md)
            clear md
            go_wp2_with fail
            exact ⟨⟨k + 1, L5, by go_num, by omega, by omega, B14, M14.out⟩, by simp [intOf]; omega⟩
          | some f =>
            have HOF := Lib.hid (twoOf B5.out HO.out.i hof)
            have HFO := Lib.hid (show ∀ j, n ≤ j → f j = false from B5.out.out _ (lk_some_mem hof))
            have HOL := Lib.hid hof
            obtain ⟨cv, hcv⟩ : ∃ x, x = cntR (cF L5) n t.n := ⟨_, rfl⟩
            clear hof
            obtain ⟨_, X', hX', c0, c1, c2, c3, c4⟩ := (HL.out.below HM5.out.bel).2.2 k t HTT.out
            cases hX'
            clear c0 c3 c4
            go_wp2_with fail
            refine HOF.out.mono ?_; rintro e w9 ⟨x, y, rfl, bs9, m9, -, -⟩
            have BS9 := Lib.hid bs9
            have B9 := Lib.hid (B5.out.new m9)
            have HM9 := Lib.hid (HM5.out.trans m9)
            have f1 := m9.cell c1 (fun h => h); have f2 := m9.cell c2 (fun h => h)
            have HRF := Lib.hid (twoROf B9.out HOL.out)
            clear bs9 m9 c1 c2 B5 HM5 HOF
            go_wp2_with fail
            refine HRF.out.mono ?_; rintro e w10 ⟨⟨x', y', rfl, rs10⟩, m10⟩
            have RS10 := Lib.hid rs10
            have BS10 := Lib.hid (BS9.out.mod m10 (fun h => h) (fun h => h))
            have B10 := Lib.hid (B9.out.new m10)
            have HM10 := Lib.hid (HM9.out.trans m10)
            have c1 := m10.cell f1 (fun h => h); have c2 := m10.cell f2 (fun h => h)
            clear rs10 m10 f1 f2 B9 HM9 HRF BS9
            have HC := Lib.hid (fun q => twoHow (B10.out.new ((Mod.refl (fun _ => False) w10).drewN q)) t.n)
            have HRC := Lib.hid (fun q => twoRHow (B10.out.new ((Mod.refl (fun _ => False) w10).drewN q)) t.n)
            rw [← hcv] at HC HRC
            clear hcv
            go_wp2_with fail
            refine wp_region2 [] [13, 24] (by kernel_rfl) (by kernel_rfl) ?_
            repeat (first | (refine reg_anyT (by rfl) (fun K hK => ?_); go_simp; refine hK _ _ ?_; clear hK K) | (refine reg_read (by rfl) (fun K hK => ?_); go_simp; refine hK _ _ ?_; clear hK K))
            refine reg_read (by rfl) (fun K hK => ?_); go_simp
            refine ⟨_, fun rn => rd_same (HC.out _), hK _ _ ?_⟩; clear hK K
            repeat (first | (refine reg_anyT (by rfl) (fun K hK => ?_); go_simp; refine hK _ _ ?_; clear hK K) | (refine reg_read (by rfl) (fun K hK => ?_); go_simp; refine hK _ _ ?_; clear hK K))
            refine reg_read (by rfl) (fun K hK => ?_); go_simp
            refine ⟨_, fun rn => rd_same (HRC.out _), hK _ _ ?_⟩; clear hK K
            repeat (first | (refine reg_anyT (by rfl) (fun K hK => ?_); go_simp; refine hK _ _ ?_; clear hK K) | (refine reg_read (by rfl) (fun K hK => ?_); go_simp; refine hK _ _ ?_; clear hK K))
            refine reg_nil (fun nd => ?_)
            have md := (Mod.refl (fun _ => False) w10).drewN nd
            have BB := Lib.hid (B10.out.new md)
            have MB := Lib.hid (HM10.out.trans md)
            have BSB := Lib.hid (BS10.out.drewN nd)
            have RSB := Lib.hid (RS10.out.drewN nd)
            clear md c1 c2 B10 HM10 BS10 RS10 HC HRC
            generalize World.drewN w10 nd = w11 at *
            go_wp2_with fail
            refine wp_region2 [(4, 4), (5, 3), (7, 4), (8, 3)] [] (by kernel_rfl) (by kernel_rfl) ?_
            repeat (first | (refine reg_anyT (by rfl) (fun K hK => ?_); go_simp; refine hK _ _ ?_; clear hK K) | (refine reg_read (by rfl) (fun K hK => ?_); go_simp; refine hK _ _ ?_; clear hK K))
            refine reg_new (by rfl) (fun rn K hK => ?_); go_simp
            refine (bitsBytes _ _ _ _ _ (BSB.out.drewN rn).toBRaw).mono ?_; rintro e v9 ⟨rfl, z1, z2, _⟩
            refine hK _ _ ⟨z2.ex, ?_⟩; clear hK K
            repeat (first | (refine reg_anyT (by rfl) (fun K hK => ?_); go_simp; refine hK _ _ ?_; clear hK K) | (refine reg_read (by rfl) (fun K hK => ?_); go_simp; refine hK _ _ ?_; clear hK K))
            have B12 := Lib.hid (BB.out.new z2.undrew)
            have M12 := Lib.hid (MB.out.trans z2.undrew)
            have RS12 := Lib.hid (RSB.out.mod z2.undrew (fun h => h) (fun h => h))
            refine reg_hold_v (by rfl) (by rfl) (.string (strOf (bytesOf f n))) (fun w' hw' => q_conv _ _ _ rfl (strB (Sl.ex z1 hw'))) ?_
            repeat (first | (refine reg_anyT (by rfl) (fun K hK => ?_); go_simp; refine hK _ _ ?_; clear hK K) | (refine reg_read (by rfl) (fun K hK => ?_); go_simp; refine hK _ _ ?_; clear hK K))
            clear z1 z2 BB MB RSB
            refine reg_new (by rfl) (fun rn K hK => ?_); go_simp
            refine (refBytes _ _ _ _ _ (RS12.out.drewN rn)).mono ?_; rintro e v13 ⟨rfl, z1, z2, _⟩
            refine hK _ _ ⟨z2.ex, ?_⟩; clear hK K
            repeat (first | (refine reg_anyT (by rfl) (fun K hK => ?_); go_simp; refine hK _ _ ?_; clear hK K) | (refine reg_read (by rfl) (fun K hK => ?_); go_simp; refine hK _ _ ?_; clear hK K))
            have B13 := Lib.hid (B12.out.new z2.undrew)
            have M13 := Lib.hid (M12.out.trans z2.undrew)
            rw [upto_all HFO.out] at z1
            refine reg_hold_v (by rfl) (by rfl) (.string (strOf (bytesOf f n))) (fun w' hw' => q_conv _ _ _ rfl (strB (Sl.ex z1 hw'))) ?_
            repeat (first | (refine reg_anyT (by rfl) (fun K hK => ?_); go_simp; refine hK _ _ ?_; clear hK K) | (refine reg_read (by rfl) (fun K hK => ?_); go_simp; refine hK _ _ ?_; clear hK K))
            clear z1 z2 B12 M12 RS12
            refine reg_nil (fun ne => ?_)
            have md := (Mod.refl (fun _ => False) v13).drewN ne
            have B14 := Lib.hid (B13.out.new md)
            have M14 := Lib.hid (M13.out.trans md)
            clear md
            go_wp2_with fail
            exact ⟨⟨k + 1, L5, by go_num, by omega, by omega, B14, M14.out⟩, by simp [intOf]; omega⟩
        · have hend : (k : Int) < len1 → ¬ (k : Int) < 100 := by omega
          by_cases h6 : (k : Int) < len1
          · have h7 : ¬ (k : Int) < 100 := hend h6
            clear hend
            go_wp2_with fail
            go_ret
            exact ⟨rfl, hm⟩
          · clear hend
            go_wp2_with fail
            go_ret
            exact ⟨rfl, hm⟩
    · have HOKB := Lib.hid hok
      clear hok
      by_cases hp2 : 200 < p
      · have hp3 := hp1 hp2
        clear hp1
        go_enter Tryd.func6, Tryd.ntmps6
        go_wp2_with fail
        refine HAW.out.mono ?_; rintro e w1 ⟨rfl, m1⟩
        have M1 := Lib.hid m1
        clear m1 HAW
        go_wp2_with fail
        refine (rareNewBad p most w1 HOKB.out).mono ?_; rintro e w2 ⟨rfl, rfl⟩
        go_wp2_with fail
        refine (refRNewBad p most w1 HOKB.out).mono ?_; rintro e w2 ⟨rfl, rfl⟩
        go_wp2_with fail
        go_loopw [12] (fun v wr => v = .int .i64 0 ∧ wr = w1) (fun _ _ => 0)
        case atStart => exact ⟨rfl, rfl⟩
        case round =>
          obtain ⟨rfl, rfl⟩ := hrel
          by_cases h6 : (0 : Int) < len1
          · go_wp2_with fail
            go_ret
            exact ⟨rfl, M1.out⟩
          · go_wp2_with fail
            go_ret
            exact ⟨rfl, M1.out⟩
      · clear hp1
        go_enter Tryd.func6, Tryd.ntmps6
        go_wp2_with fail
        refine HAW.out.mono ?_; rintro e w1 ⟨rfl, m1⟩
        have M1 := Lib.hid m1
        clear m1 HAW
        go_wp2_with fail
        refine (rareNewBad p most w1 HOKB.out).mono ?_; rintro e w2 ⟨rfl, rfl⟩
        go_wp2_with fail
        refine (refRNewBad p most w1 HOKB.out).mono ?_; rintro e w2 ⟨rfl, rfl⟩
        go_wp2_with fail
        go_loopw [12] (fun v wr => v = .int .i64 0 ∧ wr = w1) (fun _ _ => 0)
        case atStart => exact ⟨rfl, rfl⟩
        case round =>
          obtain ⟨rfl, rfl⟩ := hrel
          by_cases h6 : (0 : Int) < len1
          · go_wp2_with fail
            go_ret
            exact ⟨rfl, M1.out⟩
          · go_wp2_with fail
            go_ret
            exact ⟨rfl, M1.out⟩
end Go.Proofs.YtegmgflplhpacaaDoor
