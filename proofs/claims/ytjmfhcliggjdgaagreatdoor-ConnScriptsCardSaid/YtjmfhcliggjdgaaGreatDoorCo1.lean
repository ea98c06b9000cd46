/- The walk of the statement ConnScripts: the call returns true and turns nothing that was there; no condition but the table. -/
import Derived.Test.YtjmfhcliggjdgaaGreatDoorQ7
namespace Go.Proofs.YtjmfhcliggjdgaaGreatDoor
open Go Go.RowKit

set_option maxRecDepth 100000 in
set_option maxHeartbeats 4000000 in
theorem connScripts_walk (q : X5) (a1 : Option Addr) (len1 cap1 : Nat) (l : List Sc) (w : World) (hT : TabW w) (_ : True) (hl : IsScs w a1 len1 l) :
    Calls Tryz.prog 5 #[x5V q, .slice a1 len1 cap1] w fun e w' => e = .returned (.bool true) ∧ Below w.heap.size w w' := by
  refine Calls.mono (R := fun e w' => e = .returned (.bool true) ∧ Mod (fun _ => False) w w') ?_ (fun e w' ⟨h1, h2⟩ => ⟨h1, h2.bel⟩)
  obtain ⟨x, y, z, u, v⟩ := q
  unfold x5V
  dsimp only
  have HL := Lib.hid hl
  have HT := Lib.hid hT
  have hll : (len1 : Int) ≤ 9223372036854775807 := hl.2.1
  have m0 := (Mod.refl (fun _ => False) w).alloc (.cells #[.int .i64 x, .int .i64 y, .int .i64 z, .int .i64 u, .int .i64 v] 22)
  have M0 := Lib.hid m0
  have X0 := Lib.hid (Blk.new w #[.int .i64 x, .int .i64 y, .int .i64 z, .int .i64 u, .int .i64 v] 22)
  have HAW := Lib.hid (awake18 (w.alloc (.cells #[.int .i64 x, .int .i64 y, .int .i64 z, .int .i64 u, .int .i64 v] 22)) (hT.mod m0 fun h => h))
  clear hl hT m0
  by_cases hp0 : 150 < x ∧ x ≤ 1024
  · obtain ⟨hp1, hp2⟩ := hp0
    go_enter Tryz.func5, Tryz.ntmps5
    go_upto_region 1 with fail
    generalize w.alloc (.cells #[.int .i64 x, .int .i64 y, .int .i64 z, .int .i64 u, .int .i64 v] 22) = w0 at *
    obtain ⟨XB, hXB⟩ : ∃ b, b = w.heap.size := ⟨_, rfl⟩
    rw [← hXB] at X0 ⊢
    clear hXB
    go_wp2_with fail
    refine HAW.out.mono ?_; rintro e w1 ⟨rfl, m1⟩
    have M1 := Lib.hid (M0.out.trans m1)
    have X1 := Lib.hid (X0.out.mod m1 (fun h => h))
    have c0 := X1.out.cell 0; have c1 := X1.out.cell 1; have c2 := X1.out.cell 2; have c3 := X1.out.cell 3; have c4 := X1.out.cell 4
    clear m1 M0 X0 HAW
    go_wp2_with fail
    go_ret
    exact ⟨rfl, M1.out⟩
  · have hp1 : 150 < x → ¬ x ≤ 1024 := fun h1 h2 => hp0 ⟨h1, h2⟩
    clear hp0
    by_cases hok : BoardOk x y ∧ Fl.NewOk z u v
    · obtain ⟨n, rfl⟩ : ∃ n : Nat, x = (n : Int) := ⟨x.toNat, by have := hok.1; unfold BoardOk at this; omega⟩
      have HOKB := Lib.hid hok.1
      have HOKF := Lib.hid hok.2
      have h150 : ¬ (150 : Int) < n := by have := hok.1; unfold BoardOk at this; intro h; have := hp1 h; omega
      clear hok hp1
      go_enter Tryz.func5, Tryz.ntmps5
      go_upto_region 1 with fail
      generalize w.alloc (.cells #[.int .i64 (n : Int), .int .i64 y, .int .i64 z, .int .i64 u, .int .i64 v] 22) = w0 at *
      obtain ⟨XB, hXB⟩ : ∃ b, b = w.heap.size := ⟨_, rfl⟩
      rw [← hXB] at X0 ⊢
      clear hXB
      go_wp2_with fail
      refine HAW.out.mono ?_; rintro e w1 ⟨rfl, m1⟩
      have M1 := Lib.hid (M0.out.trans m1)
      have X1 := Lib.hid (X0.out.mod m1 (fun h => h))
      have c0 := X1.out.cell 0; have c1 := X1.out.cell 1; have c2 := X1.out.cell 2; have c3 := X1.out.cell 3; have c4 := X1.out.cell 4
      clear m1 M0 X0 HAW
      have HCN := Lib.hid (connNew n y z u v w1 HOKB.out HOKF.out (HT.out.mod M1.out fun h => h))
      go_wp2_with fail
      refine HCN.out.mono ?_; rintro e w2 ⟨s, b, M, g, t, tM, rfl, h2, m2, l2⟩
      have H2 := Lib.hid h2
      have M2 := Lib.hid (M1.out.trans m2)
      have X2 := Lib.hid (X1.out.mod m2 (fun h => h))
      have L2 : Hid (∀ i, SWb s b M g t tM [] i → w.heap.size ≤ i) := fun i hi => Nat.le_trans M1.out.size (l2 i hi)
      clear c0 c1 c2 c3 c4 h2 m2 l2 HCN M1 X1
      have c0 := X2.out.cell 0; have c1 := X2.out.cell 1; have c2 := X2.out.cell 2; have c3 := X2.out.cell 3; have c4 := X2.out.cell 4
      have HRN := Lib.hid (refNew18 n y z u v w2 HOKB.out HOKF.out)
      go_wp2_with fail
      refine HRN.out.mono ?_; rintro e w3 ⟨r, b', base, t', tb, rfl, h3, m3, l3⟩
      have TW := Lib.hid (TwoS.start HOKB.out HOKF.out HT.out H2.out M2.out L2.out h3 m3 l3)
      have M3 := Lib.hid (M2.out.trans m3)
      have X3 := Lib.hid (X2.out.mod m3 (fun h => h))
      clear h3 m3 l3 HRN H2 M2 L2 X2 c0 c1 c2 c3 c4
      go_wp2_with fail
      go_loopw [10] (fun v' wr => ∃ (k : Nat) (L : LB) (T : LT), v' = .int .i64 k ∧ k ≤ len1 ∧ k ≤ 80 ∧ Hid (TwoS wr w.heap.size s r n y z u v L T) ∧ Mod (fun _ => False) w wr) (fun v' _ => 80 - (intOf v').toNat)
      case atStart => exact ⟨0, [], [], rfl, Nat.zero_le _, Nat.zero_le _, TW, M3.out⟩
      case round =>
        obtain ⟨k, L, T, rfl, hk, hk80, hB, hm⟩ := hrel
        by_cases hlt : k < len1 ∧ k < 80
        · obtain ⟨hlt1, hlt2⟩ := hlt
          have hlt2' : (k : Int) < 80 := by omega
          obtain ⟨sc, ht⟩ : ∃ t, l[k]? = some t := ⟨_, List.getElem?_eq_getElem (by rw [HL.out.1]; exact hlt1)⟩
          obtain ⟨hot, X, rfl, c0, c1, c2, c3, c4, c5, c6⟩ := HL.out.at hm.bel ht
          have HO := Lib.hid hot
          have HM := Lib.hid hm
          have hlt1' : (k : Int) < len1 := by omega
          clear ht hot hm
          by_cases hml : sc.ml ≤ 100
          · have hml' : ¬ (100 : Int) < sc.ml := by omega
            have HST := Lib.hid (step18 sc w.heap.size s r n y z u v L T wr hB.out HO.out hml)
            go_wp2_with fail
            refine HST.out.mono ?_; rintro e w5 ⟨rfl, b5, m5⟩
            have hm5 : Mod (fun _ => False) w w5 := HM.out.new m5 (fun i hi => hi)
            obtain ⟨S5, hS5⟩ : ∃ x, x = stepC n y z u v L T sc := ⟨_, rfl⟩
            rw [← hS5] at b5
            obtain ⟨L5, T5⟩ := S5
            have B5 := Lib.hid b5
            have HM5 := Lib.hid hm5
            clear b5 m5 hm5 hS5 hB HM HST c0 c1 c2 c3 c4 c5 c6
            obtain ⟨b6, M6, g6, t6, tM6, ks6, b6', base6, t6', tb6, ks6', hT5⟩ := id B5.out
            have HC5 := Lib.hid hT5
            have r0 := hT5.rw'.at.1
            have HP1 := Lib.hid (fun rn => connPeers s b6 M6 g6 t6 tM6 n y z u v ks6 L5 T5 (w5.drewN rn) (hT5.sw.drewN rn) hT5.e1 hT5.len.1)
            have HP2 : Hid (∀ w6, Mod (fun _ => False) w5 w6 → Calls Tryz.prog 20 #[.pointer (some ⟨b6', 0, none⟩)] w6 (IntsP (keysL L5) w6)) := fun w6 m => by
              have h := refRPeers b6' base6 n y ks6' w6 (HC5.out.new m).rw'.rd (by have := HC5.out.len; omega)
              rw [← keys_mapV Rp.f ks6', HC5.out.e2] at h
              exact h
            have HKL : Hid ((keysL L5).length ≤ 64) := by
              have h1 := HC5.out.len
              have h2 : L5.length ≤ 64 := by rw [← h1.2.2.1]; exact h1.1
              show (keysL L5).length ≤ 64
              unfold keysL
              rw [List.length_map]
              exact h2
            have HT256 : Hid (T5.length ≤ 256) := HC5.out.len.2.2.2.2
            clear hT5
            go_wp2_with fail
            refine wp_regionO2 [2, 3, 4, 5, 0, 1, 6, 7, 8] [(3, 3), (5, 4)] [] (by kernel_rfl) (by kernel_rfl) (by simp only [List.filterMap_cons, List.filterMap_nil, List.getElem?_cons_zero, List.getElem?_cons_succ]; exact rfl) ?_
            repeat (first | (refine reg_anyT (by rfl) (fun K hK => ?_); go_simp; refine hK _ _ ?_; clear hK K) | (refine reg_read (by rfl) (fun K hK => ?_); go_simp; refine hK _ _ ?_; clear hK K))
            refine reg_hold_v (by rfl) (by rfl) (.pointer (some ⟨b6', 0, none⟩)) (fun w' hw' => q_load _ _ _ rfl rfl Tryz.isAgg50 (hw'.cell r0)) ?_
            repeat (first | (refine reg_anyT (by rfl) (fun K hK => ?_); go_simp; refine hK _ _ ?_; clear hK K) | (refine reg_read (by rfl) (fun K hK => ?_); go_simp; refine hK _ _ ?_; clear hK K))
            refine reg_new (by rfl) (fun rn K hK => ?_); go_simp
            refine (HP1.out rn).mono ?_; rintro e w6 ⟨v6, rfl, o6, m6⟩
            refine hK _ _ ⟨m6.ex, ?_⟩; clear hK K
            repeat (first | (refine reg_anyT (by rfl) (fun K hK => ?_); go_simp; refine hK _ _ ?_; clear hK K) | (refine reg_read (by rfl) (fun K hK => ?_); go_simp; refine hK _ _ ?_; clear hK K))
            refine reg_eff (by rfl) (fun rn K hK => ?_); go_simp
            refine (HP2.out _ (m6.undrew.drewN rn)).mono ?_; rintro e w7 ⟨v7, rfl, o7, m7⟩
            refine hK _ _ ?_; clear hK K
            repeat (first | (refine reg_anyT (by rfl) (fun K hK => ?_); go_simp; refine hK _ _ ?_; clear hK K) | (refine reg_read (by rfl) (fun K hK => ?_); go_simp; refine hK _ _ ?_; clear hK K))
            refine reg_eff (by rfl) (fun rn K hK => ?_); go_simp
            refine (same10 v6 v7 (keysL L5) (keysL L5).length _ (owns_new (owns_new o6 m7.undrew) ((Mod.refl _ _).drewN _)).sl (owns_new o7 ((Mod.refl _ _).drewN _)).sl (by have := HKL.out; omega)).mono ?_; rintro e w8 ⟨rfl, m8⟩
            refine hK _ _ ?_; clear hK K
            repeat (first | (refine reg_anyT (by rfl) (fun K hK => ?_); go_simp; refine hK _ _ ?_; clear hK K) | (refine reg_read (by rfl) (fun K hK => ?_); go_simp; refine hK _ _ ?_; clear hK K))
            refine reg_nil (fun nd => ?_)
            have mm := ((m6.undrew.trans m7.undrew).trans m8.undrew).drewN nd
            have HC8 := Lib.hid (HC5.out.new mm)
            have HM8 := Lib.hid (HM5.out.trans mm)
            clear o6 m6 o7 m7 m8 mm r0 HP1 HP2 HC5 HM5 B5
            generalize World.drewN w8 nd = w9 at *
            clear w8 w7 w6
            have r1 := HC8.out.rw'.at.2
            obtain ⟨a9, cap9, _, _, _, r3, _, hel9, _, _⟩ := HC8.out.rw'.rt.at
            have HEL9 : Hid (Els w9 a9 3 T5.length (Fl.rqL T5)) := hel9.out
            have HP1 := Lib.hid (fun rn => connAsked s b6 M6 g6 t6 tM6 n y z u v ks6 T5 (w9.drewN rn) (HC8.out.sw.drewN rn) HT256.out HC8.out.okt.i64)
            clear hel9
            go_wp2_with fail
            refine wp_regionO2 [2, 3, 4, 5, 6, 7, 8, 0, 1, 9, 10] [(3, 3), (6, 3), (8, 4)] [] (by kernel_rfl) (by kernel_rfl) (by simp only [List.filterMap_cons, List.filterMap_nil, List.getElem?_cons_zero, List.getElem?_cons_succ]; exact rfl) ?_
            repeat (first | (refine reg_anyT (by rfl) (fun K hK => ?_); go_simp; refine hK _ _ ?_; clear hK K) | (refine reg_read (by rfl) (fun K hK => ?_); go_simp; refine hK _ _ ?_; clear hK K))
            refine reg_hold_v (by rfl) (by rfl) (.pointer (some ⟨t6', 0, none⟩)) (fun w' hw' => q_load _ _ _ rfl rfl Tryz.isAgg51 (hw'.cell r1)) ?_
            repeat (first | (refine reg_anyT (by rfl) (fun K hK => ?_); go_simp; refine hK _ _ ?_; clear hK K) | (refine reg_read (by rfl) (fun K hK => ?_); go_simp; refine hK _ _ ?_; clear hK K))
            refine reg_hold_v (by rfl) (by rfl) (.slice a9 T5.length cap9) (fun w' hw' => q_load _ _ _ rfl rfl Tryz.isAgg39 (hw'.cell r3)) ?_
            repeat (first | (refine reg_anyT (by rfl) (fun K hK => ?_); go_simp; refine hK _ _ ?_; clear hK K) | (refine reg_read (by rfl) (fun K hK => ?_); go_simp; refine hK _ _ ?_; clear hK K))
            refine reg_new (by rfl) (fun rn K hK => ?_); go_simp
            refine (HP1.out rn).mono ?_; rintro e w6 ⟨v6, rfl, o6, m6⟩
            refine hK _ _ ⟨m6.ex, ?_⟩; clear hK K
            repeat (first | (refine reg_anyT (by rfl) (fun K hK => ?_); go_simp; refine hK _ _ ?_; clear hK K) | (refine reg_read (by rfl) (fun K hK => ?_); go_simp; refine hK _ _ ?_; clear hK K))
            obtain ⟨a10, cap10, rfl, _, hel10, -⟩ := o6.els
            refine reg_eff (by rfl) (fun rn K hK => ?_); go_simp
            refine (Fl.refSame a10 a9 cap10 cap9 T5 T5 _ (hel10.new ((Mod.refl _ _).drewN _)) (HEL9.out.new (m6.undrew.drewN _)) (by have := HT256.out; omega) (by have := HT256.out; omega)).mono ?_; rintro e w8 ⟨⟨Bq, rfl, hBq⟩, m8⟩
            refine hK _ _ ?_; clear hK K
            repeat (first | (refine reg_anyT (by rfl) (fun K hK => ?_); go_simp; refine hK _ _ ?_; clear hK K) | (refine reg_read (by rfl) (fun K hK => ?_); go_simp; refine hK _ _ ?_; clear hK K))
            refine reg_nil (fun nd => ?_)
            have hBq := hBq (by first | trivial | rfl)
            subst hBq
            have mm := (m6.undrew.trans m8.undrew).drewN nd
            have HC5 := Lib.hid (HC8.out.new mm)
            have HM5 := Lib.hid (HM8.out.trans mm)
            clear o6 m6 hel10 m8 mm r1 r3 HP1 HC8 HM8 HEL9
            generalize World.drewN w8 nd = w11 at *
            clear w8 w6
            go_wp2_with fail
            exact ⟨⟨k + 1, L5, T5, by go_num, by omega, by omega, ⟨_, _, _, _, _, _, _, _, _, _, _, HC5.out⟩, HM5.out⟩, by simp [intOf]; omega⟩
          · have hml' : (100 : Int) < sc.ml := by omega
            go_wp2_with fail
            go_ret
            exact ⟨rfl, HM.out⟩
        · have hstop : ¬ ((k : Int) < len1 ∧ (k : Int) < 80) := by omega
          by_cases h1 : (k : Int) < len1
          · have h2 : decide ((k : Int) < 80) = false := by simp; omega
            go_wp2_with fail
            go_ret
            exact ⟨rfl, hm⟩
          · go_wp2_with fail
            go_ret
            exact ⟨rfl, hm⟩
    · have hbad : ¬ BoardOk x y ∨ ¬ Fl.NewOk z u v := by
        by_cases h1 : BoardOk x y
        · exact .inr fun h2 => hok ⟨h1, h2⟩
        · exact .inl h1
      have HBAD := Lib.hid hbad
      have hp1' : ¬ (150 < x ∧ x ≤ 1024) := fun h => hp1 h.1 h.2
      clear hok hbad
      go_enter Tryz.func5, Tryz.ntmps5
      go_upto_region 1 with fail
      generalize w.alloc (.cells #[.int .i64 x, .int .i64 y, .int .i64 z, .int .i64 u, .int .i64 v] 22) = w0 at *
      obtain ⟨XB, hXB⟩ : ∃ b, b = w.heap.size := ⟨_, rfl⟩
      rw [← hXB] at X0 ⊢
      clear hXB
      go_wp2_with fail
      refine HAW.out.mono ?_; rintro e w1 ⟨rfl, m1⟩
      have M1 := Lib.hid (M0.out.trans m1)
      have X1 := Lib.hid (X0.out.mod m1 (fun h => h))
      have c0 := X1.out.cell 0; have c1 := X1.out.cell 1; have c2 := X1.out.cell 2; have c3 := X1.out.cell 3; have c4 := X1.out.cell 4
      clear m1 M0 X0 HAW
      have HCN := Lib.hid (connNewBad x y z u v w1 HBAD.out (HT.out.mod M1.out fun h => h))
      go_wp2_with fail
      all_goals (
        refine HCN.out.mono ?_; rintro e w2 ⟨rfl, m2⟩
        have HRN := Lib.hid (refNew18Bad x y z u v w2 HBAD.out)
        have X2 := Lib.hid (X1.out.mod m2 (fun h => h))
        have M2 := Lib.hid (M1.out.trans m2)
        clear c0 c1 c2 c3 c4 m2
        have c0 := X2.out.cell 0; have c1 := X2.out.cell 1; have c2 := X2.out.cell 2; have c3 := X2.out.cell 3; have c4 := X2.out.cell 4
        go_wp2_with fail
        refine HRN.out.mono ?_; rintro e w3 ⟨rfl, m3⟩
        have M3 := Lib.hid (M2.out.trans m3)
        clear m3 c0 c1 c2 c3 c4
        go_wp2_with fail
        go_loopw [10] (fun v' wr => v' = .int .i64 0 ∧ wr = w3) (fun _ _ => 0)
        case atStart => exact ⟨rfl, rfl⟩
        case round =>
          obtain ⟨rfl, rfl⟩ := hrel
          by_cases h1 : (0 : Int) < len1
          · go_wp2_with fail
            go_ret
            exact ⟨rfl, M3.out⟩
          · go_wp2_with fail
            go_ret
            exact ⟨rfl, M3.out⟩)
end Go.Proofs.YtjmfhcliggjdgaaGreatDoor
