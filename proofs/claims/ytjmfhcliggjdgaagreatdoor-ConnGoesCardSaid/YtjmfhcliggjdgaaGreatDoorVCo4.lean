/- The walk of the statement ConnGoes: the call returns true and turns nothing that was there; no condition but the table. -/
import Derived.Test.YtjmfhcliggjdgaaGreatDoorVCoN
import Derived.Deep.CutBlock
import Derived.Deep.CutRange
namespace Go.Proofs.YtjmfhcliggjdgaaGreatDoor
open Go Go.RowKit

set_option maxRecDepth 100000 in
set_option maxHeartbeats 4000000 in
theorem connGoes_walk (q : X5) (a1 : Option Addr) (len1 cap1 : Nat) (l : List Sc) (tt : Sc) (w : World) (hT : TabW w) (_ : True) (hl : IsScs w a1 len1 l) (ho : OkSc w.heap.size w tt) :
    Calls Tryz.prog 6 #[x5V q, .slice a1 len1 cap1, .agg (spC tt)] w fun e w' => e = .returned (.bool true) ∧ Below w.heap.size w w' := by
  refine Calls.mono (R := fun e w' => e = .returned (.bool true) ∧ Mod (fun _ => False) w w') ?_ (fun e w' ⟨h1, h2⟩ => ⟨h1, h2.bel⟩)
  obtain ⟨x, y, z, u, v⟩ := q
  obtain ⟨d, p, n', now, a, len, cap, bs, ma, ml, mc, may, zz⟩ := tt
  unfold x5V spC
  dsimp only
  have HL := Lib.hid hl
  have HT := Lib.hid hT
  have hll : (len1 : Int) ≤ 9223372036854775807 := hl.2.1
  have m0 := ((Mod.refl (fun _ => False) w).alloc (.cells #[.int .i64 x, .int .i64 y, .int .i64 z, .int .i64 u, .int .i64 v] 22)).alloc (.cells #[.int .i64 d, .int .i64 p, .int .i64 n', .int .i64 now, .slice a len cap, .slice ma ml mc, .int .u64 zz] TSc)
  have M0 := Lib.hid m0
  have HO := Lib.hid ho
  have X0 := Lib.hid ((Blk.new w #[.int .i64 x, .int .i64 y, .int .i64 z, .int .i64 u, .int .i64 v] 22).alloc (.cells #[.int .i64 d, .int .i64 p, .int .i64 n', .int .i64 now, .slice a len cap, .slice ma ml mc, .int .u64 zz] TSc))
  have Y0 := Lib.hid (show Blk ((w.alloc (.cells #[.int .i64 x, .int .i64 y, .int .i64 z, .int .i64 u, .int .i64 v] 22)).alloc (.cells #[.int .i64 d, .int .i64 p, .int .i64 n', .int .i64 now, .slice a len cap, .slice ma ml mc, .int .u64 zz] TSc)) (w.heap.size + 1) #[.int .i64 d, .int .i64 p, .int .i64 n', .int .i64 now, .slice a len cap, .slice ma ml mc, .int .u64 zz] TSc by
    have := Blk.new (w.alloc (.cells #[.int .i64 x, .int .i64 y, .int .i64 z, .int .i64 u, .int .i64 v] 22)) #[.int .i64 d, .int .i64 p, .int .i64 n', .int .i64 now, .slice a len cap, .slice ma ml mc, .int .u64 zz] TSc
    simpa using this)
  have HAW := Lib.hid (awake18 _ (hT.mod m0 fun h => h))
  clear hl hT m0 ho
  by_cases hp0 : x < 1
  · go_enter Tryz.func6, Tryz.ntmps6
    go_upto_region 1 with fail
    generalize (w.alloc (.cells #[.int .i64 x, .int .i64 y, .int .i64 z, .int .i64 u, .int .i64 v] 22)).alloc (.cells #[.int .i64 d, .int .i64 p, .int .i64 n', .int .i64 now, .slice a len cap, .slice ma ml mc, .int .u64 zz] TSc) = w0 at *
    obtain ⟨YB, hYB⟩ : ∃ b, b = w.heap.size + 1 := ⟨_, rfl⟩
    rw [← hYB] at Y0 ⊢
    obtain ⟨XB, hXB⟩ : ∃ b, b = w.heap.size := ⟨_, rfl⟩
    rw [← hXB] at X0 ⊢
    have HXY : Hid (XB < w.heap.size + 2 ∧ YB < w.heap.size + 2) := by show _ ∧ _; omega
    clear hXB hYB
    go_wp2_with fail
    refine HAW.out.mono ?_; rintro e w1 ⟨rfl, m1⟩
    have M1 := Lib.hid (M0.out.trans m1)
    have X1 := Lib.hid (X0.out.mod m1 (fun h => h))
    have Y1 := Lib.hid (Y0.out.mod m1 (fun h => h))
    have c0 := X1.out.cell 0; have c1 := X1.out.cell 1; have c2 := X1.out.cell 2; have c3 := X1.out.cell 3; have c4 := X1.out.cell 4
    clear m1 M0 X0 Y0 HAW
    have y5 := Y1.out.cell 5
    go_wp2_with fail
    go_ret
    exact ⟨rfl, M1.out⟩
  by_cases hp1 : 100 < x
  · go_enter Tryz.func6, Tryz.ntmps6
    go_upto_region 1 with fail
    generalize (w.alloc (.cells #[.int .i64 x, .int .i64 y, .int .i64 z, .int .i64 u, .int .i64 v] 22)).alloc (.cells #[.int .i64 d, .int .i64 p, .int .i64 n', .int .i64 now, .slice a len cap, .slice ma ml mc, .int .u64 zz] TSc) = w0 at *
    obtain ⟨YB, hYB⟩ : ∃ b, b = w.heap.size + 1 := ⟨_, rfl⟩
    rw [← hYB] at Y0 ⊢
    obtain ⟨XB, hXB⟩ : ∃ b, b = w.heap.size := ⟨_, rfl⟩
    rw [← hXB] at X0 ⊢
    have HXY : Hid (XB < w.heap.size + 2 ∧ YB < w.heap.size + 2) := by show _ ∧ _; omega
    clear hXB hYB
    go_wp2_with fail
    refine HAW.out.mono ?_; rintro e w1 ⟨rfl, m1⟩
    have M1 := Lib.hid (M0.out.trans m1)
    have X1 := Lib.hid (X0.out.mod m1 (fun h => h))
    have Y1 := Lib.hid (Y0.out.mod m1 (fun h => h))
    have c0 := X1.out.cell 0; have c1 := X1.out.cell 1; have c2 := X1.out.cell 2; have c3 := X1.out.cell 3; have c4 := X1.out.cell 4
    clear m1 M0 X0 Y0 HAW
    have y5 := Y1.out.cell 5
    go_wp2_with fail
    go_ret
    exact ⟨rfl, M1.out⟩
  by_cases hp2 : 100 < ml
  · have hp2' : (100 : Int) < ml := by omega
    go_enter Tryz.func6, Tryz.ntmps6
    go_upto_region 1 with fail
    generalize (w.alloc (.cells #[.int .i64 x, .int .i64 y, .int .i64 z, .int .i64 u, .int .i64 v] 22)).alloc (.cells #[.int .i64 d, .int .i64 p, .int .i64 n', .int .i64 now, .slice a len cap, .slice ma ml mc, .int .u64 zz] TSc) = w0 at *
    obtain ⟨YB, hYB⟩ : ∃ b, b = w.heap.size + 1 := ⟨_, rfl⟩
    rw [← hYB] at Y0 ⊢
    obtain ⟨XB, hXB⟩ : ∃ b, b = w.heap.size := ⟨_, rfl⟩
    rw [← hXB] at X0 ⊢
    have HXY : Hid (XB < w.heap.size + 2 ∧ YB < w.heap.size + 2) := by show _ ∧ _; omega
    clear hXB hYB
    go_wp2_with fail
    refine HAW.out.mono ?_; rintro e w1 ⟨rfl, m1⟩
    have M1 := Lib.hid (M0.out.trans m1)
    have X1 := Lib.hid (X0.out.mod m1 (fun h => h))
    have Y1 := Lib.hid (Y0.out.mod m1 (fun h => h))
    have c0 := X1.out.cell 0; have c1 := X1.out.cell 1; have c2 := X1.out.cell 2; have c3 := X1.out.cell 3; have c4 := X1.out.cell 4
    clear m1 M0 X0 Y0 HAW
    have y5 := Y1.out.cell 5
    go_wp2_with fail
    go_ret
    exact ⟨rfl, M1.out⟩
  have hp2' : ¬ (100 : Int) < ml := by omega
  have HML : Hid (ml ≤ 100) := by show ml ≤ 100; omega
  by_cases hok : BoardOk x y ∧ Fl.NewOk z u v
  · obtain ⟨n, rfl⟩ : ∃ n : Nat, x = (n : Int) := ⟨x.toNat, by have := hok.1; unfold BoardOk at this; omega⟩
    have HOKB := Lib.hid hok.1
    have HOKF := Lib.hid hok.2
    have HN : Hid (1 ≤ n ∧ n ≤ 100) := by show _ ∧ _; omega
    clear hok
    go_enter Tryz.func6, Tryz.ntmps6
    go_upto_region 1 with fail
    generalize (w.alloc (.cells #[.int .i64 (n : Int), .int .i64 y, .int .i64 z, .int .i64 u, .int .i64 v] 22)).alloc (.cells #[.int .i64 d, .int .i64 p, .int .i64 n', .int .i64 now, .slice a len cap, .slice ma ml mc, .int .u64 zz] TSc) = w0 at *
    obtain ⟨YB, hYB⟩ : ∃ b, b = w.heap.size + 1 := ⟨_, rfl⟩
    rw [← hYB] at Y0 ⊢
    obtain ⟨XB, hXB⟩ : ∃ b, b = w.heap.size := ⟨_, rfl⟩
    rw [← hXB] at X0 ⊢
    have HXY : Hid (XB < w.heap.size + 2 ∧ YB < w.heap.size + 2) := by show _ ∧ _; omega
    clear hXB hYB
    go_wp2_with fail
    refine HAW.out.mono ?_; rintro e w1 ⟨rfl, m1⟩
    have M1 := Lib.hid (M0.out.trans m1)
    have X1 := Lib.hid (X0.out.mod m1 (fun h => h))
    have Y1 := Lib.hid (Y0.out.mod m1 (fun h => h))
    have c0 := X1.out.cell 0; have c1 := X1.out.cell 1; have c2 := X1.out.cell 2; have c3 := X1.out.cell 3; have c4 := X1.out.cell 4
    clear m1 M0 X0 Y0 HAW
    have y5 := Y1.out.cell 5
    have HCN := Lib.hid (connNew n y z u v w1 HOKB.out HOKF.out (HT.out.mod M1.out fun h => h))
    go_wp2_with fail
    refine HCN.out.mono ?_; rintro e w2 ⟨s, b, M, g, t, tM, rfl, h2, m2, l2⟩
    have H2 := Lib.hid h2
    have M2 := Lib.hid (M1.out.trans m2)
    have X2 := Lib.hid (X1.out.mod m2 (fun h => h))
    have Y2 := Lib.hid (Y1.out.mod m2 (fun h => h))
    have L2b : Hid (∀ i, SWb s b M g t tM [] i → w1.heap.size ≤ i) := l2
    have HM12 := Lib.hid m2
    have HT1 := Lib.hid (HT.out.mod M1.out fun h => h)
    obtain ⟨B0, hB0⟩ : ∃ b, b = w1.heap.size := ⟨_, rfl⟩
    have HB0 : Hid (w.heap.size ≤ B0 ∧ XB < B0 ∧ YB < B0) := by have h1 := X1.out.lt; have h2 := Y1.out.lt; have h3 := M1.out.size; show _ ∧ _ ∧ _; omega
    have HBE := Lib.hid hB0
    clear hB0
    clear c0 c1 c2 c3 c4 h2 m2 l2 HCN M1 X1 Y1
    have c0 := X2.out.cell 0; have c1 := X2.out.cell 1; have c2 := X2.out.cell 2; have c3 := X2.out.cell 3; have c4 := X2.out.cell 4
    have HRN := Lib.hid (refNew18 n y z u v w2 HOKB.out HOKF.out)
    go_wp2_with fail
    refine HRN.out.mono ?_; rintro e w3 ⟨r, b', base, t', tb, rfl, h3, m3, l3⟩
    have tw := TwoS.start HOKB.out HOKF.out HT1.out H2.out HM12.out L2b.out h3 m3 l3
    rw [← HBE.out] at tw
    have TW := Lib.hid tw
    have M3 := Lib.hid (M2.out.trans m3)
    have X3 := Lib.hid (X2.out.mod m3 (fun h => h))
    have Y3 := Lib.hid (Y2.out.mod m3 (fun h => h))
    clear h3 m3 l3 HRN H2 M2 L2b X2 Y2 c0 c1 c2 c3 c4 tw HM12 HT1 HBE
    clear y5
    go_upto_block 0 with fail
    go_cut [12] from 85 to 108 (fun v' wx => ∃ (L : LB) (T : LT), Hid (TwoS wx B0 s r n y z u v L T) ∧ Hid (RngL L) ∧ Hid (Blk wx XB #[.int .i64 (n : Int), .int .i64 y, .int .i64 z, .int .i64 u, .int .i64 v] 22) ∧ Hid (Blk wx YB #[.int .i64 d, .int .i64 p, .int .i64 n', .int .i64 now, .slice a len cap, .slice ma ml mc, .int .u64 zz] TSc) ∧ Hid (Mod (fun _ => False) w wx))
    case first =>
      go_wp2_with fail
      go_loopw [12] (fun v' wr => ∃ (k : Nat) (L : LB) (T : LT), v' = .int .i64 k ∧ k ≤ len1 ∧ k ≤ 60 ∧ Hid (TwoS wr B0 s r n y z u v L T) ∧ Hid (RngL L) ∧ Hid (Blk wr XB #[.int .i64 (n : Int), .int .i64 y, .int .i64 z, .int .i64 u, .int .i64 v] 22) ∧ Hid (Blk wr YB #[.int .i64 d, .int .i64 p, .int .i64 n', .int .i64 now, .slice a len cap, .slice ma ml mc, .int .u64 zz] TSc) ∧ Mod (fun _ => False) w wr) (fun v' _ => 60 - (intOf v').toNat)
      case atStart => exact ⟨0, [], [], rfl, Nat.zero_le _, Nat.zero_le _, TW, (fun q hq => by simp at hq), X3, Y3, M3.out⟩
      case round =>
        obtain ⟨k, L, T, rfl, hk, hk60, hB, hRG, hX, hY, hm⟩ := hrel
        by_cases hlt : k < len1 ∧ k < 60
        · obtain ⟨hlt1, hlt2⟩ := hlt
          have hlt2' : (k : Int) < 60 := by omega
          obtain ⟨sc, ht⟩ : ∃ t, l[k]? = some t := ⟨_, List.getElem?_eq_getElem (by rw [HL.out.1]; exact hlt1)⟩
          obtain ⟨hot, X, rfl, c0, c1, c2, c3, c4, c5, c6⟩ := HL.out.at hm.bel ht
          have HOS := Lib.hid (hot.mono HB0.out.1)
          have HM := Lib.hid hm
          have hlt1' : (k : Int) < len1 := by omega
          clear ht hot hm
          by_cases hml : sc.ml ≤ 100
          · have hml' : ¬ (100 : Int) < sc.ml := by omega
            have HST := Lib.hid (step18 sc B0 s r n y z u v L T wr hB.out HOS.out hml)
            go_wp2_with fail
            refine HST.out.mono ?_; rintro e w5 ⟨rfl, b5, m5⟩
            have hm5 : Mod (fun _ => False) w w5 := HM.out.new m5 (fun i hi => Nat.le_trans HB0.out.1 hi)
            have HX5 := Lib.hid (hX.out.mod m5 (by have := HB0.out; omega))
            have HY5 := Lib.hid (hY.out.mod m5 (by have := HB0.out; omega))
            obtain ⟨S5, hS5⟩ : ∃ x, x = stepC n y z u v L T sc := ⟨_, rfl⟩
            rw [← hS5] at b5
            have HRG5 : Hid (RngL S5.1) := by show RngL _; rw [hS5]; exact hRG.out.step sc
            obtain ⟨L5, T5⟩ := S5
            dsimp only at HRG5
            have B5 := Lib.hid b5
            have HM5 := Lib.hid hm5
            clear b5 m5 hm5 hS5 hB HM HST c0 c1 c2 c3 c4 c5 c6 hX hY hRG
            go_wp2_with fail
            exact ⟨⟨k + 1, L5, T5, by go_num, by omega, by omega, B5, HRG5, HX5, HY5, HM5.out⟩, by simp [intOf]; omega⟩
          · have hml' : (100 : Int) < sc.ml := by omega
            go_wp2_with fail
            go_ret
            exact ⟨rfl, HM.out⟩
        · have hend : (k : Int) < len1 → ¬ (k : Int) < 60 := by omega
          by_cases h6 : (k : Int) < len1
          · have h7 : ¬ (k : Int) < 60 := hend h6
            clear hend
            go_wp2_with fail
            go_meet
            exact ⟨L, T, hB, hRG, hX, hY, hm⟩
          · clear hend
            go_wp2_with fail
            go_meet
            exact ⟨L, T, hB, hRG, hX, hY, hm⟩
    case rest =>
      obtain ⟨L, T0, B4, hRG, hX4, hY4, hm4⟩ := hcut
      obtain ⟨w4, hw4⟩ : ∃ w4 : World, w4 = wc := ⟨_, rfl⟩
      rw [← hw4] at B4 hX4 hY4 hm4 ⊢
      clear hw4
      obtain ⟨b4, M4, g4, t4, tM4, ks4, b4', base4, t4', tb4, ks4', hT4⟩ := id B4.out
      have HC4 := Lib.hid hT4
      have HL1 := Lib.hid (connLate 1099511627776 s b4 M4 g4 t4 tM4 n y z u v ks4 T0 w4 hT4.sw hT4.len.2.2.2.2 hT4.okt.i64 hT4.okt.tm)
      clear hT4 B4 TW X3 Y3 M3
      go_wp2_with fail
      refine HL1.out.mono ?_; rintro e w5 ⟨⟨v5, rfl, o5⟩, ht5, mt5⟩
      have h3 := StS.tmod HC4.out.sw HC4.out.e1 ht5 mt5
      have hr5 := HC4.out.mid (mt5.mono fun _ _ e => .inr (.inr (.inr e)))
      have HR5 := Lib.hid hr5
      have HH3 := Lib.hid h3
      have HX5 := Lib.hid (hX4.out.mod mt5 (fun e => by have h1 := HC4.out.low tM4 (.inl (.inr (.inr (.inr rfl)))); have h2 := HB0.out; omega))
      have HY5 := Lib.hid (hY4.out.mod mt5 (fun e => by have h1 := HC4.out.low tM4 (.inl (.inr (.inr (.inr rfl)))); have h2 := HB0.out; omega))
      have HL2 := Lib.hid (refLateA 1099511627776 t4' tb4 z u v T0 w5 hr5.1.rt hr5.1.hb.2 HC4.out.len.2.2.2.2 HC4.out.okt.tm)
      have r1 := hr5.1.at.2
      have HM5 := Lib.hid mt5
      clear o5 ht5 mt5 h3 hr5 HL1 hX4 hY4
      go_wp2_with fail
      refine HL2.out.mono ?_; rintro e w6 ⟨⟨v6, rfl, o6⟩, hs6⟩
      obtain ⟨T, hTT⟩ : ∃ t, t = lateT v 1099511627776 T0 := ⟨_, rfl⟩
      rw [← hTT] at HH3 hs6
      have hok : Fl.Okk z u T ∧ (∀ q ∈ T, q.1 < (n : Int)) := by
        rw [hTT]
        unfold lateT
        split
        · exact ⟨HC4.out.okt.filter _, fun q hq => HC4.out.kn q (List.mem_filter.1 hq).1⟩
        · exact ⟨HC4.out.okt, HC4.out.kn⟩
      have hb := HC4.out.both HH3.out (StW.tmod HR5.out.1 HC4.out.e2 hs6) HC4.out.ok hok.1 hok.2
      have HX6 := Lib.hid (HX5.out.mod hs6.2.1 (fun e => by
        have h1 := HC4.out.low _ (.inr (HR5.out.2 _ (.inr (.inr e)))); have h2 := HB0.out; omega))
      have HY6 := Lib.hid (HY5.out.mod hs6.2.1 (fun e => by
        have h1 := HC4.out.low _ (.inr (HR5.out.2 _ (.inr (.inr e)))); have h2 := HB0.out; omega))
      have HM6 := Lib.hid (hm4.out.new hb.2 (fun i e => Nat.le_trans HB0.out.1 e))
      have HB6 := Lib.hid hb.1
      clear o6 hs6 hb hok hTT r1 HL2 HX5 HY5 HM5 HH3 HR5 HC4 hm4
      obtain ⟨b7, M7, g7, t7, tM7, ks7, b7', base7, t7', tb7, ks7', hT7⟩ := id HB6.out
      have HC6 := Lib.hid hT7
      have c0 := HX6.out.cell 0
      have y4 := HY6.out.cell 4
      have hn1 := HN.out
      have HS := Lib.hid (setsOk n a len cap bs w6 (by omega) (HO.out.below HM6.out.bel).sl HO.out.by8)
      clear hT7 HB6 hn1
      go_wp2_with fail
      refine HS.out.mono ?_; rintro e w9 ⟨s5, g5, r5, q5, rfl, bs5, -, m5, l5, -⟩
      obtain ⟨f, hf⟩ : ∃ f, f = F13 n bs := ⟨_, rfl⟩
      rw [← hf] at bs5
      have HBS := Lib.hid bs5
      have HC9 := Lib.hid (HC6.out.new m5)
      have HX9 := Lib.hid (HX6.out.mod m5 (fun h => h))
      have HY9 := Lib.hid (HY6.out.mod m5 (fun h => h))
      have HM9 := Lib.hid (HM6.out.trans m5)
      have HS9 : Hid (tM7 ≠ s5 ∧ tM7 ≠ g5 ∧ B0 ≤ tM7) := by
        have h1 := HC6.out.sw.lt (.inr (.inr (.inr rfl)))
        have h2 := HC6.out.low tM7 (.inl (.inr (.inr (.inr rfl))))
        show _ ∧ _ ∧ _
        omega
      clear bs5 m5 l5 hf HC6 HX6 HY6 HM6 c0 y4 HS
      go_wp2_with fail
      have hmay := sl_ints (HO.out.below HM9.out.bel).may
      obtain ⟨hmlen, am, cm, hmv, hmc⟩ := hmay
      dsimp only at hmlen hmv hmc
      cases hmv
      have HMC := Lib.hid hmc
      have HMLN := Lib.hid hmlen
      clear hmlen hmc
      go_loopw [15, 16] (fun bv kv wr => ∃ (k : Nat) (B : Bool), kv = .int .i64 k ∧ bv = .bool B ∧ k ≤ ml ∧ Hid (B = wantB n L f (may.take k)) ∧ Mod (fun _ => False) w9 wr) (fun _ kv _ => ml - (intOf kv).toNat)
      case atStart => exact ⟨0, false, rfl, rfl, Nat.zero_le _, rfl, Mod.refl _ _⟩
      case round =>
        obtain ⟨k, W0, rfl, rfl, hk, hW, hm⟩ := hrel
        obtain ⟨wo, hwo⟩ : ∃ wo : World, wo = wr := ⟨_, rfl⟩
        rw [← hwo] at hm ⊢
        clear hwo
        have HMo := Lib.hid hm
        have y5 := (HY9.out.mod hm (fun h => h)).cell 5
        have hml100 := HML.out
        by_cases hkm : (k : Int) < ml
        · have hkm2 : k < ml := by omega
          obtain ⟨p, hmz⟩ : ∃ q, may[k]? = some q := ⟨_, List.getElem?_eq_getElem (by have := HMLN.out; omega)⟩
          obtain ⟨XM, rfl, hcm⟩ := HMC.out k p hmz
          have hcm' := hm.cell hcm (fun h => h)
          have hWK : wantB n L f (may.take (k + 1)) = (wantB n L f (may.take k) || hitP n L f p) := by rw [List.take_add_one, hmz]; exact wantB_snoc ..
          have HK3 : Hid (k < ml ∧ ml ≤ 100) := ⟨hkm2, hml100⟩
          have hk1 : ml - (k + 1) < ml - k := by omega
          have HRWo := Lib.hid (HC9.out.rw'.new hm)
          have r0 := HRWo.out.at.1
          have HXo := Lib.hid (HX9.out.mod hm (fun h => h))
          have HBo := Lib.hid (HBS.out.mod hm (fun h => h) (fun h => h))
          clear hmz hcm hm hk1
          cases hlo : lkL L p with
          | none =>
            have hrn : lkL ks7' p = none := by rw [lk_absR HC9.out.e2] at hlo; exact Option.map_eq_none_iff.1 hlo
            have HOF := Lib.hid (fun rn => refROfNo p b7' base7 n y ks7' (wo.drewN rn) (HRWo.out.rd.drewN rn) (by have := HC9.out.len; omega) HC9.out.rise.2 hrn)
            have HWK : Hid (W0 = wantB n L f (may.take (k + 1))) := by show _ = _; rw [hWK, hW.out]; unfold hitP; rw [hlo, Bool.or_false]
            clear hrn hlo hWK hW
            go_wp2_with fail
            refine wp_region2 [] [] (by kernel_rfl) (by kernel_rfl) ?_
            repeat (first | (refine reg_anyT (by rfl) (fun K hK => ?_); go_simp; refine hK _ _ ?_; clear hK K) | (refine reg_read (by rfl) (fun K hK => ?_); go_simp; refine hK _ _ ?_; clear hK K))
            refine reg_eff (by rfl) (fun rn K hK => ?_); go_simp
            refine (HOF.out rn).mono ?_; rintro e w' ⟨rfl, rfl⟩
            refine hK _ _ ?_; clear hK K
            repeat (first | (refine reg_anyT (by rfl) (fun K hK => ?_); go_simp; refine hK _ _ ?_; clear hK K) | (refine reg_read (by rfl) (fun K hK => ?_); go_simp; refine hK _ _ ?_; clear hK K))
            refine reg_nil (fun nd => ?_)
            have HMd := Lib.hid ((HMo.out.drewN rn).drewN nd)
            have HXd := Lib.hid (show Blk ((wo.drewN rn).drewN nd) _ _ _ from HXo.out)
            clear r0 y5 hcm' HXo HBo HRWo
            generalize (wo.drewN rn).drewN nd = w12 at *
            have c0 := HXd.out.cell 0
            have hn1 := HN.out.1
            go_wp2_with fail
            go_loopw [15, 19] (fun bv iv wr => bv = .bool W0 ∧ iv = .int .i64 0 ∧ wr = w12) (fun _ _ _ => 0)
            case atStart => exact ⟨rfl, rfl, rfl⟩
            case round =>
              obtain ⟨rfl, rfl, rfl⟩ := hrel
              have h0n : (0 : Int) < n := by omega
              go_wp2_with fail
              have h3 := HK3.out
              have hkw : wrap64 ((k : Int) + 1) = ((k + 1 : Nat) : Int) := by unfold wrap64; omega
              first
                | exact ⟨⟨k + 1, W0, by rw [hkw], rfl, by omega, HWK.out, HMd.out⟩, by rw [hkw]; simp [intOf]; omega⟩
                | exact ⟨⟨k + 1, W0, by go_num, rfl, by omega, HWK.out, HMd.out⟩, by simp [intOf]; omega⟩
          | some o =>
            obtain ⟨rp, hrp, hrf⟩ : ∃ rp, lkL ks7' p = some rp ∧ rp.f = o := by
              have h1 := hlo
              rw [lk_absR HC9.out.e2] at h1
              exact Option.map_eq_some_iff.1 h1
            have HRO : Hid (∀ k, n ≤ k → rp.f k = false) := fun k hk => by
              have h1 := lk_absR HC9.out.e2 p
              rw [hrp] at h1
              have h2 := lk_abs HC9.out.e1 p
              rw [h1] at h2
              obtain ⟨ow, how, e⟩ := Option.map_eq_some_iff.1 h2.symm
              rw [← e]
              exact (HC9.out.sw.bd.sets _ (lk_some_mem how)).out k hk
            have HOF := Lib.hid (fun rn => refROf p b7' base7 n y ks7' rp (wo.drewN rn) (HRWo.out.rd.drewN rn) (by have := HC9.out.len; omega) HC9.out.rise.2 HC9.out.sm.1.2 hrp)
            have HWK : Hid ((W0 || hitTo rp.f f n) = wantB n L f (may.take (k + 1))) := by show _ = _; rw [hWK, hW.out]; unfold hitP; rw [hlo, hrf]
            clear hrp hrf hlo hWK hW
            go_wp2_with fail
            refine wp_region2 [] [] (by kernel_rfl) (by kernel_rfl) ?_
            repeat (first | (refine reg_anyT (by rfl) (fun K hK => ?_); go_simp; refine hK _ _ ?_; clear hK K) | (refine reg_read (by rfl) (fun K hK => ?_); go_simp; refine hK _ _ ?_; clear hK K))
            refine reg_eff (by rfl) (fun rn K hK => ?_); go_simp
            refine (HOF.out rn).mono ?_; rintro e w' ⟨⟨xa, xb, rfl, rs⟩, mo⟩
            refine hK _ _ ?_; clear hK K
            repeat (first | (refine reg_anyT (by rfl) (fun K hK => ?_); go_simp; refine hK _ _ ?_; clear hK K) | (refine reg_read (by rfl) (fun K hK => ?_); go_simp; refine hK _ _ ?_; clear hK K))
            refine reg_nil (fun nd => ?_)
            have hmq := mo.undrew.drewN nd
            have HRS := Lib.hid (rs.drewN nd)
            have HMd := Lib.hid (HMo.out.trans hmq)
            have HXd := Lib.hid (HXo.out.mod hmq (fun h => h))
            have HBd := Lib.hid (HBo.out.mod hmq (fun h => h) (fun h => h))
            clear r0 y5 hcm' HXo HBo HRWo hmq rs mo
            generalize World.drewN w' nd = w12 at *
            clear w'
            have c0 := HXd.out.cell 0
            have hn1 := HN.out
            go_wp2_with fail
            go_loopw [15, 19] (fun bv iv wr => ∃ (i : Nat) (B : Bool), iv = .int .i64 i ∧ bv = .bool B ∧ i ≤ n ∧ Hid (B = (W0 || hitTo rp.f f i)) ∧ wr = w12) (fun _ iv _ => n - (intOf iv).toNat)
            case atStart => exact ⟨0, W0, rfl, rfl, Nat.zero_le _, by show _ = _; simp [hitTo], rfl⟩
            case round =>
              obtain ⟨i, B, rfl, rfl, hi, hB, rfl⟩ := hrel
              by_cases hin : (i : Int) < n
              · have hin2 : i < n := by omega
                have HHR := Lib.hid (refHas xa xb n rp.f i wr HRS.out HRO.out)
                rw [hasB_nat] at HHR
                have HHB := Lib.hid (bitsHas s5 g5 n f i wr HBd.out)
                rw [hasB_nat] at HHB
                have hst : (W0 || hitTo rp.f f (i + 1)) = (B || (rp.f i && !f i)) := by
                  rw [hB.out]
                  show (W0 || (hitTo rp.f f i || (rp.f i && !f i))) = _
                  rw [Bool.or_assoc]
                have HI3 : Hid (i < n ∧ n ≤ 100) := ⟨hin2, hn1.2⟩
                cases B with
                | true =>
                  have HST : Hid (true = (W0 || hitTo rp.f f (i + 1))) := by show _ = _; rw [hst]; rfl
                  clear hst hB
                  go_wp2_with fail
                  have h3 := HI3.out
                  exact ⟨⟨i + 1, true, by go_num, rfl, by omega, HST.out, by first | trivial | rfl⟩, by simp [intOf]; omega⟩
                | false =>
                  cases ho1 : rp.f i with
                  | false =>
                    rw [ho1] at HHR hst
                    have HST : Hid (false = (W0 || hitTo rp.f f (i + 1))) := by show _ = _; rw [hst]; rfl
                    clear hst hB ho1
                    go_wp2_with fail
                    refine HHR.out.mono ?_; rintro e w15 ⟨rfl, rfl⟩
                    go_wp2_with fail
                    have h3 := HI3.out
                    exact ⟨⟨i + 1, false, by go_num, rfl, by omega, HST.out, by first | trivial | rfl⟩, by simp [intOf]; omega⟩
                  | true =>
                    rw [ho1] at HHR hst
                    have HST : Hid ((!f i) = (W0 || hitTo rp.f f (i + 1))) := by show _ = _; rw [hst]; rfl
                    obtain ⟨fi, hfi⟩ : ∃ b, b = f i := ⟨_, rfl⟩
                    rw [← hfi] at HHB HST
                    clear hst hB ho1 hfi
                    go_wp2_with fail
                    refine HHR.out.mono ?_; rintro e w15 ⟨rfl, rfl⟩
                    go_wp2_with fail
                    refine HHB.out.mono ?_; rintro e w15 ⟨rfl, rfl⟩
                    go_wp2_with fail
                    have h3 := HI3.out
                    exact ⟨⟨i + 1, !fi, by go_num, rfl, by omega, HST.out, by first | trivial | rfl⟩, by simp [intOf]; omega⟩
              · have hie : i = n := by omega
                subst hie
                have HST : Hid (B = wantB i L f (may.take (k + 1))) := by show _ = _; rw [hB.out]; exact HWK.out
                clear hB hin
                go_wp2_with fail
                have h3 := HK3.out
                have hkw : wrap64 ((k : Int) + 1) = ((k + 1 : Nat) : Int) := by unfold wrap64; omega
                first
                  | exact ⟨⟨k + 1, B, by rw [hkw], rfl, by omega, HST.out, HMd.out⟩, by rw [hkw]; simp [intOf]; omega⟩
                  | exact ⟨⟨k + 1, B, by go_num, rfl, by omega, HST.out, HMd.out⟩, by simp [intOf]; omega⟩
        · have hkT : may.take k = may := List.take_of_length_le (by have := HMLN.out; omega)
          have hW2 := hW.out
          rw [hkT] at hW2
          have HWT := Lib.hid hW2
          clear hkT hW hW2 hml100
          have HCo := Lib.hid (HC9.out.new HMo.out)
          have HXo := Lib.hid (HX9.out.mod HMo.out (fun h => h))
          have HYo := Lib.hid (HY9.out.mod HMo.out (fun h => h))
          have HBo := Lib.hid (HBS.out.mod HMo.out (fun h => h) (fun h => h))
          have HMw := Lib.hid (HM9.out.trans HMo.out)
          have HLT : Hid (T.length ≤ 256) := HC9.out.len.2.2.2.2
          have HP1 := Lib.hid (connAsked s b7 M7 g7 t7 tM7 n y z u v ks7 T wo HCo.out.sw HLT.out HC9.out.okt.i64)
          clear HMo
          go_wp2_with fail
          refine HP1.out.mono ?_; rintro e w20 ⟨v20, rfl, o20, m20⟩
          obtain ⟨a20, cap20, rfl, -, -, -⟩ := o20.els
          have HC20 := Lib.hid (HCo.out.new m20)
          have HX20 := Lib.hid (HXo.out.mod m20 (fun h => h))
          have HY20 := Lib.hid (HYo.out.mod m20 (fun h => h))
          have HB20 := Lib.hid (HBo.out.mod m20 (fun h => h) (fun h => h))
          have HM20 := Lib.hid (HMw.out.trans m20)
          have y3 := HY20.out.cell 3
          clear o20 m20 HCo HXo HYo HBo HMw HP1 HC9 HX9 HY9 HBS HM9 y5
          by_cases hTl : 0 < T.length
          · have hTl' : (0 : Int) < (T.length : Int) := by omega
            go_wp2_with fail
            go_ret
            exact ⟨rfl, HM20.out⟩
          have hT0 : T = [] := List.length_eq_zero_iff.1 (by omega)
          subst hT0
          clear hTl HLT
          by_cases hnow : 0 ≤ now ∧ now ≤ 1099511627776
          · have hnow1 : ¬ now < 0 := by omega
            have hnow2 : ¬ 1099511627776 < now := by omega
            have y5 := HY20.out.cell 5; have y6 := HY20.out.cell 6
            have HOM := Lib.hid (HO.out.below HM20.out.bel)
            have HLOW : Hid (∀ i, SWb s b7 M7 g7 t7 tM7 ks7 i → w.heap.size ≤ i ∧ gTab < i) := fun i hi => by
              have h1 := HC20.out.low i (.inl hi); have h2 := HC20.out.tab.2; have h3 := HB0.out; omega
            have HMT : Hid (∀ x m c, Value.slice ma ml mc = .slice (some x) m c → 0 < ml → x.block ≠ tM7) := fun x m c e h0 => by
              have h1 := HO.out.mlow x m c e h0
              have h2 := HLOW.out tM7 (.inr (.inr (.inr rfl)))
              omega
            have HF := connNext now zz (some s5) (some (n, f)) (.slice ma ml mc) ml may s b7 M7 g7 t7 tM7 n y z u v ks7 L [] w20 HC20.out.sw HC20.out.tab.1 (lo := 0) (.inr ⟨s5, g5, n, f, rfl, rfl, HB20.out, Nat.zero_le _, Nat.zero_le _⟩) HOM.out.may (by have := HML.out; omega) HMT.out HC20.out.e1 HC20.out.okt HC20.out.ok HC20.out.sm.2.2.2.1 HC20.out.sm.1.1 HC20.out.kn HC20.out.sm.1.2.2 (fun i hi => (HLOW.out i hi).2)
            rw [nextA_some hnow] at HF
            dsimp only at HF
            have hinv := nextS_ind (P := InvS n z u) (keysL L) (fun p _ _ st st' h ha => h.step ha) ([], []) ⟨HC20.out.okt, HC20.out.kn, Nat.zero_le _⟩ (L := L) (f := f) (now := now) (seed := zz) (may := may)
            have hask := AskedP.all (n := n) (mo := z) (ea := u) (L := L) (f := f) (now := now) (seed := zz) (may := may) (T := []) List.Pairwise.nil (keysL L)
            have hgone := GoneP.all (n := n) (mo := z) (ea := u) (L := L) (f := f) (now := now) (seed := zz) (may := may) hRG.out HB20.out.out
            have hgoes := next_goes (n := n) (mo := z) (ea := u) (L := L) (f := f) (now := now) (seed := zz) (may := may) HC20.out.sm.1.2.2 hnow (by have := HC20.out.sm; omega) HC20.out.sm.2.1 hRG.out
            obtain ⟨R, hR⟩ : ∃ r, r = nextS n z u L f now zz may (keysL L) ([], []) := ⟨_, rfl⟩
            rw [← hR] at HF hinv hask hgone hgoes
            obtain ⟨T2, OUT⟩ := R
            dsimp only at HF hgoes
            rw [← HWT.out] at hgoes
            have HIN := Lib.hid hinv
            have HGO := Lib.hid hgone
            have HGW := Lib.hid hgoes
            have HT2 : Hid (T2.length = OUT.length) := by have := hask.len; show _ = _; simpa using this
            have HFA := Lib.hid HF
            have HNOW := Lib.hid hnow
            have HKF := Lib.hid HOKF.out
            clear HF hR hinv hask hnow hgone hgoes
            go_wp2_with fail
            refine HFA.out.mono ?_; rintro e w21 ⟨⟨v21, rfl, o21⟩, ht21, m21⟩
            obtain ⟨a21, cap21, rfl, -, -, -⟩ := o21.els
            have HSW21 := Lib.hid (HC20.out.sw.tmod ht21 m21)
            have HX21 := Lib.hid (HX20.out.mod m21 (by have h1 := HS9.out; have h2 := HB0.out; omega))
            have HY21 := Lib.hid (HY20.out.mod m21 (by have h1 := HS9.out; have h2 := HB0.out; omega))
            have HB21 := Lib.hid (HB20.out.mod m21 (fun e => HS9.out.1 e.symm) (fun e => HS9.out.2.1 e.symm))
            have HM21 := Lib.hid (HM20.out.new m21 (fun i e => by rw [e]; exact (HLOW.out tM7 (.inr (.inr (.inr rfl)))).1))
            have HTB21 := Lib.hid (HC20.out.tab.1.mod m21 (fun e => by have := (HLOW.out tM7 (.inr (.inr (.inr rfl)))).2; omega))
            have hl2 : T2.length ≤ 256 := by have h1 := HIN.out.ok.len; have h2 := HC20.out.sm.2.2.2.1; dsimp only at h1; omega
            have HP2 := Lib.hid (connAsked s b7 M7 g7 t7 tM7 n y z u v ks7 T2 w21 HSW21.out hl2 HIN.out.ok.i64)
            clear o21 ht21 m21 HX20 HY20 HB20 HM20 HFA y3 y5 y6
            go_wp2_with fail
            refine HP2.out.mono ?_; rintro e w22 ⟨v22, rfl, o22, m22⟩
            obtain ⟨a22, cap22, rfl, -, -, -⟩ := o22.els
            have HB22 := Lib.hid (HB21.out.mod m22 (fun h => h) (fun h => h))
            have HX22 := Lib.hid (HX21.out.mod m22 (fun h => h))
            have HY22 := Lib.hid (HY21.out.mod m22 (fun h => h))
            have HM22 := Lib.hid (HM21.out.trans m22)
            have y3 := HY22.out.cell 3
            have HF := connFall now (some s5) (some (n, f)) s b7 M7 g7 t7 tM7 n y z u v ks7 T2 w22 (HSW21.out.new m22) (HTB21.out.mod m22 fun h => h) (lo := 0) (.inr ⟨s5, g5, n, f, rfl, rfl, HB22.out, Nat.zero_le _, Nat.zero_le _⟩) HIN.out.ok HC20.out.sm.2.2.2.1 HIN.out.kn HC20.out.sm.1.2.2 (HLOW.out tM7 (.inr (.inr (.inr rfl)))).2
            rw [fallA_some HNOW.out] at HF
            dsimp only at HF
            have hls := fallR_list (mo := z) (ea := u) (F := outF n f T2) HNOW.out n 0 T2 [] (by have := HN.out; omega) (fun j h1 h2 h3 => (outF_none (by omega) h3).2)
            rw [List.nil_append] at hls
            rw [hls] at HF
            have hri := room_int (p := 0) HIN.out.ok
            dsimp only at hri
            have hmany := HGO.out.many
            dsimp only at hmany
            rw [hmany] at hri
            have hfree := HGO.out.free
            dsimp only at hfree
            obtain ⟨FALL, hFA⟩ : ∃ o, o = ((freeL (outF n f T2) n 0).take (roomN z u 0 T2)).map fun (j : Nat) => ((j : Int), (⟨0, now⟩ : Fl.Rq)) := ⟨_, rfl⟩
            rw [← hFA] at HF
            have hfl : FALL.length = min (freeL (outF n f T2) n 0).length (roomN z u 0 T2) := by rw [hFA, List.length_map, List.length_take]; omega
            obtain ⟨cN, hcN⟩ : ∃ c, c = cnt f n := ⟨_, rfl⟩
            rw [← hcN] at hfree
            have heq : ((FALL.length : Nat) : Int) = min ((n : Int) - (cN : Int) - (T2.length : Int)) (min u (z - (T2.length : Int))) := by
              rw [hfl]
              generalize roomN z u 0 T2 = RM at *
              generalize (freeL (outF n f T2) n 0).length = FL at *
              omega
            have HEQ := Lib.hid heq
            have HCN := Lib.hid hcN
            have hn1 := HN.out.2
            have hcn : cN ≤ n := by omega
            have HFA := Lib.hid HF
            clear HF hls hri hmany hfree hFA hfl heq hcN o22 m22 HX21 HY21 HB21 HM21 HP2 HSW21 HTB21
            go_wp2_with fail
            refine HFA.out.mono ?_; rintro e w23 ⟨⟨v23, rfl, o23⟩, -, m23⟩
            obtain ⟨a23, cap23, rfl, -, -, -⟩ := o23.els
            have HX23 := Lib.hid (HX22.out.mod m23 (by have h1 := HS9.out; have h2 := HB0.out; omega))
            have HB23 := Lib.hid (HB22.out.mod m23 (fun e => HS9.out.1 e.symm) (fun e => HS9.out.2.1 e.symm))
            have HM23 := Lib.hid (HM22.out.new m23 (fun i e => by rw [e]; exact (HLOW.out tM7 (.inr (.inr (.inr rfl)))).1))
            have hgw : decide ((0 : Int) < (OUT.length : Int)) = W0 := by rw [← HGW.out]; simp
            have c0 := HX23.out.cell 0; have c2 := HX23.out.cell 2; have c3 := HX23.out.cell 3
            have hs1 : IntKind.i64.wrap ((n : Int) - (cN : Int)) = (n : Int) - cN := by unfold IntKind.wrap; simp [IntKind.bits, IntKind.signed]; omega
            have hs2 : IntKind.i64.wrap ((n : Int) - (cN : Int) - (T2.length : Int)) = (n : Int) - cN - T2.length := by unfold IntKind.wrap; simp [IntKind.bits, IntKind.signed]; omega
            have hs3 : IntKind.i64.wrap (z - (T2.length : Int)) = z - T2.length := by have h1 := HKF.out; unfold Fl.NewOk at h1; unfold IntKind.wrap; simp [IntKind.bits, IntKind.signed]; omega
            have HCO := Lib.hid (fun w' (h : BSet w' s5 g5 n f) => bitsCount s5 g5 n f w' h)
            rw [← HCN.out] at HCO
            clear o23 m23 HX22 HY22 HB22 HM22 y3 HFA
            have hgw2 : decide (0 < OUT.length) = W0 := HGW.out
            have hgn : (W0 != W0) = false := by cases W0 <;> rfl
            go_wp2_with fail
            refine wp_region2 [] [24] (by kernel_rfl) (by kernel_rfl) ?_
            repeat (first | (refine reg_anyT (by rfl) (fun K hK => ?_); go_simp; refine hK _ _ ?_; clear hK K) | (refine reg_read (by rfl) (fun K hK => ?_); go_simp; refine hK _ _ ?_; clear hK K))
            refine reg_read (by rfl) (fun K hK => ?_); go_simp
            refine ⟨_, fun rn => rd_same (HCO.out _ (HB23.out.drewN _)), hK _ _ ?_⟩; clear hK K
            repeat (first | (refine reg_anyT (by rfl) (fun K hK => ?_); go_simp; refine hK _ _ ?_; clear hK K) | (refine reg_read (by rfl) (fun K hK => ?_); go_simp; refine hK _ _ ?_; clear hK K))
            refine reg_nil (fun nd => ?_)
            go_wp2_with fail
            go_ret
            exact ⟨by rw [HEQ.out]; simp, HM23.out.drewN _⟩
          · have hbn : now < 0 ∨ 1099511627776 < now := by omega
            by_cases h0 : now < 0
            · clear hbn hnow
              go_wp2_with fail
              go_ret
              exact ⟨rfl, HM20.out⟩
            · have h1 : 1099511627776 < now := hbn.resolve_left h0
              clear hbn hnow
              go_wp2_with fail
              go_ret
              exact ⟨rfl, HM20.out⟩
  · have hbad : ¬ BoardOk x y ∨ ¬ Fl.NewOk z u v := by
      by_cases h1 : BoardOk x y
      · exact .inr fun h2 => hok ⟨h1, h2⟩
      · exact .inl h1
    have HBAD := Lib.hid hbad
    clear hok hbad
    go_enter Tryz.func6, Tryz.ntmps6
    go_upto_region 1 with fail
    generalize (w.alloc (.cells #[.int .i64 x, .int .i64 y, .int .i64 z, .int .i64 u, .int .i64 v] 22)).alloc (.cells #[.int .i64 d, .int .i64 p, .int .i64 n', .int .i64 now, .slice a len cap, .slice ma ml mc, .int .u64 zz] TSc) = w0 at *
    obtain ⟨YB, hYB⟩ : ∃ b, b = w.heap.size + 1 := ⟨_, rfl⟩
    rw [← hYB] at Y0 ⊢
    obtain ⟨XB, hXB⟩ : ∃ b, b = w.heap.size := ⟨_, rfl⟩
    rw [← hXB] at X0 ⊢
    have HXY : Hid (XB < w.heap.size + 2 ∧ YB < w.heap.size + 2) := by show _ ∧ _; omega
    clear hXB hYB
    go_wp2_with fail
    refine HAW.out.mono ?_; rintro e w1 ⟨rfl, m1⟩
    have M1 := Lib.hid (M0.out.trans m1)
    have X1 := Lib.hid (X0.out.mod m1 (fun h => h))
    have Y1 := Lib.hid (Y0.out.mod m1 (fun h => h))
    have c0 := X1.out.cell 0; have c1 := X1.out.cell 1; have c2 := X1.out.cell 2; have c3 := X1.out.cell 3; have c4 := X1.out.cell 4
    clear m1 M0 X0 Y0 HAW
    have y5 := Y1.out.cell 5
    have HCN := Lib.hid (connNewBad x y z u v w1 HBAD.out (HT.out.mod M1.out fun h => h))
    go_wp2_with fail
    refine HCN.out.mono ?_; rintro e w2 ⟨rfl, m2⟩
    have HRN := Lib.hid (refNew18Bad x y z u v w2 HBAD.out)
    have X2 := Lib.hid (X1.out.mod m2 (fun h => h))
    have M2 := Lib.hid (M1.out.trans m2)
    clear c0 c1 c2 c3 c4 m2
    have c0 := X2.out.cell 0; have c1 := X2.out.cell 1; have c2 := X2.out.cell 2; have c3 := X2.out.cell 3; have c4 := X2.out.cell 4
    go_wp2_with fail
    refine HRN.out.mono ?_; rintro e w3 ⟨rfl, m3⟩
    have M3 := Lib.hid (M2.out.trans m3)
    clear m3 c0 c1 c2 c3 c4
    go_wp2_with fail
    go_ret
    exact ⟨rfl, M3.out⟩
end Go.Proofs.YtjmfhcliggjdgaaGreatDoor
