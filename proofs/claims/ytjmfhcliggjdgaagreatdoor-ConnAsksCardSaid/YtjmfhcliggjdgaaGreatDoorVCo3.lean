/- The walk of the statement ConnAsks: the call returns true and turns nothing that was there; no condition but the table. -/
import Derived.Test.YtjmfhcliggjdgaaGreatDoorVCoM
import Derived.Deep.CutBlock
import Derived.Deep.CutRange
namespace Go.Proofs.YtjmfhcliggjdgaaGreatDoor
open Go Go.RowKit

set_option maxRecDepth 100000 in
set_option maxHeartbeats 4000000 in
theorem connAsks_walk (q : X5) (a1 : Option Addr) (len1 cap1 : Nat) (l : List Sc) (tt : Sc) (w : World) (hT : TabW w) (_ : True) (hl : IsScs w a1 len1 l) (ho : OkSc w.heap.size w tt) :
    Calls Tryz.prog 3 #[x5V q, .slice a1 len1 cap1, .agg (spC tt)] w fun e w' => e = .returned (.bool true) ∧ Below w.heap.size w w' := by
  refine Calls.mono (R := fun e w' => e = .returned (.bool true) ∧ Mod (fun _ => False) w w') ?_ (fun e w' ⟨h1, h2⟩ => ⟨h1, h2.bel⟩)
  obtain ⟨x, y, z, u, v⟩ := q
  obtain ⟨d, p, n', now, a, len, cap, bs, ma, ml, mc, may, zz⟩ := tt
  unfold x5V spC
  dsimp only
  have HL := Lib.hid hl
  have HT := Lib.hid hT
  have hll : (len1 : Int) ≤ 9223372036854775807 := hl.2.1
  have m0 := ((Mod.refl (fun _ => False) w).alloc (.cells #[.int .i64 x, .int .i64 y, .int .i64 z, .int .i64 u, .int .i64 v] 22)).alloc (.cells #[.int .i64 d, .int .i64 p, .int .i64 n', .int .i64 now, .slice a len cap, .slice ma ml mc, .int .u64 zz] TSc)
  have M0 := Lib.hid m0
  have HO := Lib.hid ho
  have X0 := Lib.hid ((Blk.new w #[.int .i64 x, .int .i64 y, .int .i64 z, .int .i64 u, .int .i64 v] 22).alloc (.cells #[.int .i64 d, .int .i64 p, .int .i64 n', .int .i64 now, .slice a len cap, .slice ma ml mc, .int .u64 zz] TSc))
  have Y0 := Lib.hid (show Blk ((w.alloc (.cells #[.int .i64 x, .int .i64 y, .int .i64 z, .int .i64 u, .int .i64 v] 22)).alloc (.cells #[.int .i64 d, .int .i64 p, .int .i64 n', .int .i64 now, .slice a len cap, .slice ma ml mc, .int .u64 zz] TSc)) (w.heap.size + 1) #[.int .i64 d, .int .i64 p, .int .i64 n', .int .i64 now, .slice a len cap, .slice ma ml mc, .int .u64 zz] TSc by
    have := Blk.new (w.alloc (.cells #[.int .i64 x, .int .i64 y, .int .i64 z, .int .i64 u, .int .i64 v] 22)) #[.int .i64 d, .int .i64 p, .int .i64 n', .int .i64 now, .slice a len cap, .slice ma ml mc, .int .u64 zz] TSc
    simpa using this)
  have HAW := Lib.hid (awake18 _ (hT.mod m0 fun h => h))
  clear hl hT m0 ho
  by_cases hp0 : x < 1
  · go_enter Tryz.func3, Tryz.ntmps3
    go_upto_region 1 with fail
    generalize (w.alloc (.cells #[.int .i64 x, .int .i64 y, .int .i64 z, .int .i64 u, .int .i64 v] 22)).alloc (.cells #[.int .i64 d, .int .i64 p, .int .i64 n', .int .i64 now, .slice a len cap, .slice ma ml mc, .int .u64 zz] TSc) = w0 at *
    obtain ⟨YB, hYB⟩ : ∃ b, b = w.heap.size + 1 := ⟨_, rfl⟩
    rw [← hYB] at Y0 ⊢
    obtain ⟨XB, hXB⟩ : ∃ b, b = w.heap.size := ⟨_, rfl⟩
    rw [← hXB] at X0 ⊢
    have HXY : Hid (XB < w.heap.size + 2 ∧ YB < w.heap.size + 2) := by show _ ∧ _; omega
    clear hXB hYB
    go_wp2_with fail
    refine HAW.out.mono ?_; rintro e w1 ⟨rfl, m1⟩
    have M1 := Lib.hid (M0.out.trans m1)
    have X1 := Lib.hid (X0.out.mod m1 (fun h => h))
    have Y1 := Lib.hid (Y0.out.mod m1 (fun h => h))
    have c0 := X1.out.cell 0; have c1 := X1.out.cell 1; have c2 := X1.out.cell 2; have c3 := X1.out.cell 3; have c4 := X1.out.cell 4
    clear m1 M0 X0 Y0 HAW
    have y5 := Y1.out.cell 5
    go_wp2_with fail
    go_ret
    exact ⟨rfl, M1.out⟩
  by_cases hp1 : 100 < x
  · go_enter Tryz.func3, Tryz.ntmps3
    go_upto_region 1 with fail
    generalize (w.alloc (.cells #[.int .i64 x, .int .i64 y, .int .i64 z, .int .i64 u, .int .i64 v] 22)).alloc (.cells #[.int .i64 d, .int .i64 p, .int .i64 n', .int .i64 now, .slice a len cap, .slice ma ml mc, .int .u64 zz] TSc) = w0 at *
    obtain ⟨YB, hYB⟩ : ∃ b, b = w.heap.size + 1 := ⟨_, rfl⟩
    rw [← hYB] at Y0 ⊢
    obtain ⟨XB, hXB⟩ : ∃ b, b = w.heap.size := ⟨_, rfl⟩
    rw [← hXB] at X0 ⊢
    have HXY : Hid (XB < w.heap.size + 2 ∧ YB < w.heap.size + 2) := by show _ ∧ _; omega
    clear hXB hYB
    go_wp2_with fail
    refine HAW.out.mono ?_; rintro e w1 ⟨rfl, m1⟩
    have M1 := Lib.hid (M0.out.trans m1)
    have X1 := Lib.hid (X0.out.mod m1 (fun h => h))
    have Y1 := Lib.hid (Y0.out.mod m1 (fun h => h))
    have c0 := X1.out.cell 0; have c1 := X1.out.cell 1; have c2 := X1.out.cell 2; have c3 := X1.out.cell 3; have c4 := X1.out.cell 4
    clear m1 M0 X0 Y0 HAW
    have y5 := Y1.out.cell 5
    go_wp2_with fail
    go_ret
    exact ⟨rfl, M1.out⟩
  by_cases hp2 : 100 < ml
  · have hp2' : (100 : Int) < ml := by omega
    go_enter Tryz.func3, Tryz.ntmps3
    go_upto_region 1 with fail
    generalize (w.alloc (.cells #[.int .i64 x, .int .i64 y, .int .i64 z, .int .i64 u, .int .i64 v] 22)).alloc (.cells #[.int .i64 d, .int .i64 p, .int .i64 n', .int .i64 now, .slice a len cap, .slice ma ml mc, .int .u64 zz] TSc) = w0 at *
    obtain ⟨YB, hYB⟩ : ∃ b, b = w.heap.size + 1 := ⟨_, rfl⟩
    rw [← hYB] at Y0 ⊢
    obtain ⟨XB, hXB⟩ : ∃ b, b = w.heap.size := ⟨_, rfl⟩
    rw [← hXB] at X0 ⊢
    have HXY : Hid (XB < w.heap.size + 2 ∧ YB < w.heap.size + 2) := by show _ ∧ _; omega
    clear hXB hYB
    go_wp2_with fail
    refine HAW.out.mono ?_; rintro e w1 ⟨rfl, m1⟩
    have M1 := Lib.hid (M0.out.trans m1)
    have X1 := Lib.hid (X0.out.mod m1 (fun h => h))
    have Y1 := Lib.hid (Y0.out.mod m1 (fun h => h))
    have c0 := X1.out.cell 0; have c1 := X1.out.cell 1; have c2 := X1.out.cell 2; have c3 := X1.out.cell 3; have c4 := X1.out.cell 4
    clear m1 M0 X0 Y0 HAW
    have y5 := Y1.out.cell 5
    go_wp2_with fail
    go_ret
    exact ⟨rfl, M1.out⟩
  have hp2' : ¬ (100 : Int) < ml := by omega
  have HML : Hid (ml ≤ 100) := by show ml ≤ 100; omega
  by_cases hok : BoardOk x y ∧ Fl.NewOk z u v
  · obtain ⟨n, rfl⟩ : ∃ n : Nat, x = (n : Int) := ⟨x.toNat, by have := hok.1; unfold BoardOk at this; omega⟩
    have HOKB := Lib.hid hok.1
    have HOKF := Lib.hid hok.2
    have HN : Hid (1 ≤ n ∧ n ≤ 100) := by show _ ∧ _; omega
    clear hok
    go_enter Tryz.func3, Tryz.ntmps3
    go_upto_region 1 with fail
    generalize (w.alloc (.cells #[.int .i64 (n : Int), .int .i64 y, .int .i64 z, .int .i64 u, .int .i64 v] 22)).alloc (.cells #[.int .i64 d, .int .i64 p, .int .i64 n', .int .i64 now, .slice a len cap, .slice ma ml mc, .int .u64 zz] TSc) = w0 at *
    obtain ⟨YB, hYB⟩ : ∃ b, b = w.heap.size + 1 := ⟨_, rfl⟩
    rw [← hYB] at Y0 ⊢
    obtain ⟨XB, hXB⟩ : ∃ b, b = w.heap.size := ⟨_, rfl⟩
    rw [← hXB] at X0 ⊢
    have HXY : Hid (XB < w.heap.size + 2 ∧ YB < w.heap.size + 2) := by show _ ∧ _; omega
    clear hXB hYB
    go_wp2_with fail
    refine HAW.out.mono ?_; rintro e w1 ⟨rfl, m1⟩
    have M1 := Lib.hid (M0.out.trans m1)
    have X1 := Lib.hid (X0.out.mod m1 (fun h => h))
    have Y1 := Lib.hid (Y0.out.mod m1 (fun h => h))
    have c0 := X1.out.cell 0; have c1 := X1.out.cell 1; have c2 := X1.out.cell 2; have c3 := X1.out.cell 3; have c4 := X1.out.cell 4
    clear m1 M0 X0 Y0 HAW
    have y5 := Y1.out.cell 5
    have HCN := Lib.hid (connNew n y z u v w1 HOKB.out HOKF.out (HT.out.mod M1.out fun h => h))
    go_wp2_with fail
    refine HCN.out.mono ?_; rintro e w2 ⟨s, b, M, g, t, tM, rfl, h2, m2, l2⟩
    have H2 := Lib.hid h2
    have M2 := Lib.hid (M1.out.trans m2)
    have X2 := Lib.hid (X1.out.mod m2 (fun h => h))
    have Y2 := Lib.hid (Y1.out.mod m2 (fun h => h))
    have L2b : Hid (∀ i, SWb s b M g t tM [] i → w1.heap.size ≤ i) := l2
    have HM12 := Lib.hid m2
    have HT1 := Lib.hid (HT.out.mod M1.out fun h => h)
    obtain ⟨B0, hB0⟩ : ∃ b, b = w1.heap.size := ⟨_, rfl⟩
    have HB0 : Hid (w.heap.size ≤ B0 ∧ XB < B0 ∧ YB < B0) := by have h1 := X1.out.lt; have h2 := Y1.out.lt; have h3 := M1.out.size; show _ ∧ _ ∧ _; omega
    have HBE := Lib.hid hB0
    clear hB0
    clear c0 c1 c2 c3 c4 h2 m2 l2 HCN M1 X1 Y1
    have c0 := X2.out.cell 0; have c1 := X2.out.cell 1; have c2 := X2.out.cell 2; have c3 := X2.out.cell 3; have c4 := X2.out.cell 4
    have HRN := Lib.hid (refNew18 n y z u v w2 HOKB.out HOKF.out)
    go_wp2_with fail
    refine HRN.out.mono ?_; rintro e w3 ⟨r, b', base, t', tb, rfl, h3, m3, l3⟩
    have tw := TwoS.start HOKB.out HOKF.out HT1.out H2.out HM12.out L2b.out h3 m3 l3
    rw [← HBE.out] at tw
    have TW := Lib.hid tw
    have M3 := Lib.hid (M2.out.trans m3)
    have X3 := Lib.hid (X2.out.mod m3 (fun h => h))
    have Y3 := Lib.hid (Y2.out.mod m3 (fun h => h))
    clear h3 m3 l3 HRN H2 M2 L2b X2 Y2 c0 c1 c2 c3 c4 tw HM12 HT1 HBE
    clear y5
    go_upto_block 0 with fail
    go_cut [12] from 87 to 110 (fun v' wx => ∃ (L : LB) (T : LT), Hid (TwoS wx B0 s r n y z u v L T) ∧ Hid (Blk wx XB #[.int .i64 (n : Int), .int .i64 y, .int .i64 z, .int .i64 u, .int .i64 v] 22) ∧ Hid (Blk wx YB #[.int .i64 d, .int .i64 p, .int .i64 n', .int .i64 now, .slice a len cap, .slice ma ml mc, .int .u64 zz] TSc) ∧ Hid (Mod (fun _ => False) w wx))
    case first =>
      go_wp2_with fail
      go_loopw [12] (fun v' wr => ∃ (k : Nat) (L : LB) (T : LT), v' = .int .i64 k ∧ k ≤ len1 ∧ k ≤ 60 ∧ Hid (TwoS wr B0 s r n y z u v L T) ∧ Hid (Blk wr XB #[.int .i64 (n : Int), .int .i64 y, .int .i64 z, .int .i64 u, .int .i64 v] 22) ∧ Hid (Blk wr YB #[.int .i64 d, .int .i64 p, .int .i64 n', .int .i64 now, .slice a len cap, .slice ma ml mc, .int .u64 zz] TSc) ∧ Mod (fun _ => False) w wr) (fun v' _ => 60 - (intOf v').toNat)
      case atStart => exact ⟨0, [], [], rfl, Nat.zero_le _, Nat.zero_le _, TW, X3, Y3, M3.out⟩
      case round =>
        obtain ⟨k, L, T, rfl, hk, hk60, hB, hX, hY, hm⟩ := hrel
        by_cases hlt : k < len1 ∧ k < 60
        · obtain ⟨hlt1, hlt2⟩ := hlt
          have hlt2' : (k : Int) < 60 := by omega
          obtain ⟨sc, ht⟩ : ∃ t, l[k]? = some t := ⟨_, List.getElem?_eq_getElem (by rw [HL.out.1]; exact hlt1)⟩
          obtain ⟨hot, X, rfl, c0, c1, c2, c3, c4, c5, c6⟩ := HL.out.at hm.bel ht
          have HOS := Lib.hid (hot.mono HB0.out.1)
          have HM := Lib.hid hm
          have hlt1' : (k : Int) < len1 := by omega
          clear ht hot hm
          by_cases hml : sc.ml ≤ 100
          · have hml' : ¬ (100 : Int) < sc.ml := by omega
            have HST := Lib.hid (step18 sc B0 s r n y z u v L T wr hB.out HOS.out hml)
            go_wp2_with fail
            refine HST.out.mono ?_; rintro e w5 ⟨rfl, b5, m5⟩
            have hm5 : Mod (fun _ => False) w w5 := HM.out.new m5 (fun i hi => Nat.le_trans HB0.out.1 hi)
            have HX5 := Lib.hid (hX.out.mod m5 (by have := HB0.out; omega))
            have HY5 := Lib.hid (hY.out.mod m5 (by have := HB0.out; omega))
            obtain ⟨S5, hS5⟩ : ∃ x, x = stepC n y z u v L T sc := ⟨_, rfl⟩
            rw [← hS5] at b5
            obtain ⟨L5, T5⟩ := S5
            have B5 := Lib.hid b5
            have HM5 := Lib.hid hm5
            clear b5 m5 hm5 hS5 hB HM HST c0 c1 c2 c3 c4 c5 c6 hX hY
            go_wp2_with fail
            exact ⟨⟨k + 1, L5, T5, by go_num, by omega, by omega, B5, HX5, HY5, HM5.out⟩, by simp [intOf]; omega⟩
          · have hml' : (100 : Int) < sc.ml := by omega
            go_wp2_with fail
            go_ret
            exact ⟨rfl, HM.out⟩
        · have hend : (k : Int) < len1 → ¬ (k : Int) < 60 := by omega
          by_cases h6 : (k : Int) < len1
          · have h7 : ¬ (k : Int) < 60 := hend h6
            clear hend
            go_wp2_with fail
            go_meet
            exact ⟨L, T, hB, hX, hY, hm⟩
          · clear hend
            go_wp2_with fail
            go_meet
            exact ⟨L, T, hB, hX, hY, hm⟩
    case rest =>
      obtain ⟨L, T, B4, hX4, hY4, hm4⟩ := hcut
      obtain ⟨w4, hw4⟩ : ∃ w4 : World, w4 = wc := ⟨_, rfl⟩
      rw [← hw4] at B4 hX4 hY4 hm4 ⊢
      clear hw4
      obtain ⟨b4, M4, g4, t4, tM4, ks4, b4', base4, t4', tb4, ks4', hT4⟩ := id B4.out
      have HC4 := Lib.hid hT4
      have HLT : Hid (T.length ≤ 256) := hT4.len.2.2.2.2
      have ma := (Mod.refl (fun _ => False) w4).alloc (.map #[] 0)
      have HC6 := Lib.hid (HC4.out.new ma)
      have HX6 := Lib.hid (hX4.out.mod ma (fun h => h))
      have HY6 := Lib.hid (hY4.out.mod ma (fun h => h))
      have HM6 := Lib.hid (hm4.out.trans ma)
      have HIM := Lib.hid (IMap.made Tryz.prog 3 w4)
      have HWB : Hid (w4.heap.size < (w4.alloc (.map #[] 0)).heap.size ∧ (∀ i, SWb s b4 M4 g4 t4 tM4 ks4 i → i ≠ w4.heap.size) ∧ (∀ i, RWb (w4.alloc (.map #[] 0)) r b4' t4' ks4' i → i ≠ w4.heap.size) ∧ XB < w4.heap.size ∧ YB < w4.heap.size ∧ w.heap.size ≤ w4.heap.size) := by
        have h2 := hX4.out.lt
        have h3 := hY4.out.lt
        have h4 := hm4.out.size
        refine ⟨by simp, fun i hi => ?_, fun i hi => ?_, h2, h3, by omega⟩
        · have := HC4.out.sw.lt hi
          omega
        · have := HC4.out.rw'.lt ((HC4.out.rw'.modB ma fun _ _ h => h).2 i hi)
          omega
      have hmm := @run_makeMap Tryz.prog
      clear hT4 B4 TW X3 Y3 M3 ma HC4 hX4 hY4 hm4
      go_upto_region 15 with fail
      clear hmm
      generalize w4.alloc (.map #[] 0) = w6 at *
      generalize w4.heap.size = WB at *
      clear w4
      have HP1 := Lib.hid (connAsked s b4 M4 g4 t4 tM4 n y z u v ks4 T w6 HC6.out.sw HLT.out HC6.out.okt.i64)
      go_wp2_with fail
      refine HP1.out.mono ?_; rintro e w7 ⟨v7, rfl, o7, m7⟩
      obtain ⟨a7, cap7, rfl, _, hel, _⟩ := o7.els
      have HB7 : Hid (∀ X : Addr, a7 = some X → X.block ≠ WB) := fun X e => by subst e; have h1 := (o7.blk X _ _ rfl).1; have h2 := HWB.out.1; omega
      have HE := Lib.hid hel
      have HC7 := Lib.hid (HC6.out.new m7)
      have HR7 : Hid (∀ i, RWb w7 r b4' t4' ks4' i → i ≠ WB) := fun i hi => HWB.out.2.2.1 i ((HC6.out.rw'.modB m7 fun _ _ h => h).2 i hi)
      have HX7 := Lib.hid (HX6.out.mod m7 (fun h => h))
      have HY7 := Lib.hid (HY6.out.mod m7 (fun h => h))
      have HM7 := Lib.hid (HM6.out.trans m7)
      have HIM7 := Lib.hid (HIM.out.mod m7 (fun h => h))
      have HW7 : Hid (WB < w7.heap.size) := HIM7.out.lt
      clear o7 hel m7 HC6 HX6 HY6 HM6 HIM HP1
      have hlt256 := HLT.out
      go_wp2_with fail
      go_loopw [15] (fun i' wr => ∃ k : Nat, i' = .int .i64 k ∧ k ≤ T.length ∧ Hid (IMap Tryz.prog 3 wr WB (wayL (keysL (T.take k)))) ∧ Mod (· = WB) w7 wr) (fun i' _ => T.length - (intOf i').toNat)
      case atStart => exact ⟨0, rfl, Nat.zero_le _, HIM7.out, Mod.refl _ _⟩
      case round =>
        obtain ⟨k, rfl, hk, hI, hm⟩ := hrel
        by_cases hlt' : (k : Int) < T.length
        · obtain ⟨⟨x9, r9⟩, hkr⟩ : ∃ q, T[k]? = some q := ⟨_, List.getElem?_eq_getElem (by omega)⟩
          obtain ⟨X, rfl, p0, p1, p2⟩ := Fl.rqEl HE.out (Nat.le_refl _) hkr
          have hXz : ∀ q, ¬ (X.add q).block = WB := fun q => by rw [Addr.add_block]; exact HB7.out X rfl
          have q1 := hm.cell p1 (hXz _)
          have hxi := HC7.out.okt.i64 _ (List.mem_of_getElem? hkr)
          have hTK : keysL (T.take (k + 1)) = keysL (T.take k) ++ [x9] := by unfold keysL; rw [List.take_add_one, hkr, List.map_append]; rfl
          have hwl : (wayL (keysL (T.take k))).length < maxLen := by
            have h1 := way_le (keysL (T.take k))
            have h2 : (keysL (T.take k)).length ≤ k := by unfold keysL; rw [List.length_map]; exact List.length_take_le _ _
            unfold maxLen
            omega
          obtain ⟨w9, hput, hI9, hm9, hz9⟩ := hI.out.put Tryz.underlying3 Tryz.underlying38 hwl hxi (.bool true)
          rw [← wayL_snoc, ← hTK] at hI9
          have HI9 := Lib.hid hI9
          have HM9 := Lib.hid (hm.trans hm9)
          have hk1 : T.length - (k + 1) < T.length - k := by omega
          have hxi2 : (Lit.int .i64 x9).wf = true := hxi
          clear hkr p0 p1 p2 hm hI hI9 hm9 hz9 hwl hTK
          go_wp2_with fail
          exact ⟨⟨k + 1, by go_num, by omega, HI9.out, HM9.out⟩, by simp [intOf]; omega⟩
        · have hkT : T.take k = T := List.take_of_length_le (by omega)
          rw [hkT] at hI
          obtain ⟨w8, hw8⟩ : ∃ w8 : World, w8 = wr := ⟨_, rfl⟩
          rw [← hw8] at hI hm ⊢
          have HX8 := Lib.hid (HX7.out.mod hm (by have := HWB.out; omega))
          have HY8 := Lib.hid (HY7.out.mod hm (by have := HWB.out; omega))
          have HSW8 := Lib.hid (HC7.out.sw.mod hm (fun i hi => HWB.out.2.1 i hi))
          have hrw := HC7.out.rw'.modB hm (fun i hi => HR7.out i hi)
          have HRW8 := Lib.hid hrw.1
          have HR8 : Hid (∀ i, RWb w8 r b4' t4' ks4' i → i ≠ WB ∧ RWb w7 r b4' t4' ks4' i) := fun i hi => ⟨HR7.out i (hrw.2 i hi), hrw.2 i hi⟩
          have HT8 := Lib.hid (HT.out.mod (HM7.out.new hm (fun i e => by have := HWB.out; omega)) fun h => h)
          have HM8 := Lib.hid (HM7.out.new hm (fun i e => by have := HWB.out; omega))
          have HI8 := Lib.hid hI.out
          have HW8 : Hid (WB < w8.heap.size) := HI8.out.lt
          have c0 := HX8.out.cell 0
          have y4 := HY8.out.cell 4
          have hn1 := HN.out
          have HS := Lib.hid (setsOk n a len cap bs w8 (by omega) (HO.out.below HM8.out.bel).sl HO.out.by8)
          clear hkT hm hI hw8 hrw HX7 HY7 HM7 hn1 HIM7
          go_wp2_with fail
          refine HS.out.mono ?_; rintro e w9 ⟨s5, g5, r5, q5, rfl, bs5, -, m5, l5, -⟩
          obtain ⟨f, hf⟩ : ∃ f, f = F13 n bs := ⟨_, rfl⟩
          rw [← hf] at bs5
          have HBS := Lib.hid bs5
          have hrw := HRW8.out.modB m5 fun _ _ h => h
          have HRW9 := Lib.hid hrw.1
          have HSW9 := Lib.hid (HSW8.out.new m5)
          have HR9 : Hid (∀ i, RWb w9 r b4' t4' ks4' i → i ≠ WB ∧ i ≠ s5 ∧ i ≠ g5 ∧ RWb w7 r b4' t4' ks4' i) := fun i hi => by
            have h1 := HR8.out i (hrw.2 i hi)
            have h2 := HRW8.out.lt (hrw.2 i hi)
            exact ⟨h1.1, by omega, by omega, h1.2⟩
          have HS9 : Hid (∀ i, SWb s b4 M4 g4 t4 tM4 ks4 i → i ≠ WB ∧ i ≠ s5 ∧ i ≠ g5) := fun i hi => by
            have h1 := HWB.out.2.1 i hi
            have h2 := HSW8.out.lt hi
            omega
          have HSG : Hid (s5 ≠ WB ∧ g5 ≠ WB) := by have := HW8.out; show _ ∧ _; omega
          have HX9 := Lib.hid (HX8.out.mod m5 (fun h => h))
          have HY9 := Lib.hid (HY8.out.mod m5 (fun h => h))
          have HT9 := Lib.hid (HT8.out.mod m5 (fun h => h))
          have HM9 := Lib.hid (HM8.out.trans m5)
          have HI9 := Lib.hid (HI8.out.mod m5 (fun h => h))
          have y3 := HY9.out.cell 3; have y5 := HY9.out.cell 5; have y6 := HY9.out.cell 6
          have HLOW : Hid (∀ i, SWb s b4 M4 g4 t4 tM4 ks4 i → w.heap.size ≤ i ∧ gTab < i) := fun i hi => by
            have h1 := HC7.out.low i (.inl hi); have h2 := HC7.out.tab.2; have h3 := HB0.out; omega
          have HOM := Lib.hid (HO.out.below HM9.out.bel)
          have HMT : Hid (∀ x m c, Value.slice ma ml mc = .slice (some x) m c → 0 < ml → x.block ≠ tM4) := fun x m c e h0 => by
            have h1 := HO.out.mlow x m c e h0
            have h2 := HLOW.out tM4 (.inr (.inr (.inr rfl)))
            omega
          clear bs5 m5 l5 hf hrw HRW8 HSW8 HX8 HY8 HT8 HM8 HI8 HR8 HW8 c0 y4 HS
          have HF := connNext now zz (some s5) (some (n, f)) (.slice ma ml mc) ml may s b4 M4 g4 t4 tM4 n y z u v ks4 L T w9 HSW9.out HT9.out (lo := 0) (.inr ⟨s5, g5, n, f, rfl, rfl, HBS.out, Nat.zero_le _, Nat.zero_le _⟩) HOM.out.may (by have := HML.out; omega) HMT.out HC7.out.e1 HC7.out.okt HC7.out.ok HC7.out.sm.2.2.2.1 HC7.out.sm.1.1 HC7.out.kn HC7.out.sm.1.2.2 (fun i hi => (HLOW.out i hi).2)
          by_cases hnow : 0 ≤ now ∧ now ≤ 1099511627776
          · rw [nextA_some hnow] at HF
            dsimp only at HF
            have hinv := nextS_ind (P := InvS n z u) (keysL L) (fun p _ _ st st' h ha => h.step ha) (T, []) ⟨HC7.out.okt, HC7.out.kn, Nat.zero_le _⟩ (L := L) (f := f) (now := now) (seed := zz) (may := may)
            have hask := AskedP.all (n := n) (mo := z) (ea := u) (L := L) (f := f) (now := now) (seed := zz) (may := may) HC7.out.okt.rising (keysL L)
            obtain ⟨R, hR⟩ : ∃ r, r = nextS n z u L f now zz may (keysL L) (T, []) := ⟨_, rfl⟩
            rw [← hR] at HF hinv hask
            obtain ⟨T2, OUT⟩ := R
            have HIN := Lib.hid hinv
            have HAP := Lib.hid hask
            have HFA := Lib.hid HF
            clear HF hR hinv hask hnow
            go_wp2_with fail
            refine HFA.out.mono ?_; rintro e w10 ⟨⟨v10, rfl, o10⟩, ht10, m10⟩
            have htm := HLOW.out tM4 (.inr (.inr (.inr rfl)))
            have htB : B0 ≤ tM4 := HC7.out.low tM4 (.inl (.inr (.inr (.inr rfl))))
            have hst := HS9.out tM4 (.inr (.inr (.inr rfl)))
            have hap : ∀ i, RWb w9 r b4' t4' ks4' i → ¬ i = tM4 := fun i hi e => HC7.out.ap tM4 (.inr (.inr (.inr rfl))) (by rw [← e]; exact (HR9.out i hi).2.2.2)
            have hrw := HRW9.out.modB m10 hap
            have HRW10 := Lib.hid hrw.1
            have HR10 : Hid (∀ i, RWb w10 r b4' t4' ks4' i → i ≠ WB) := fun i hi => (HR9.out i (hrw.2 i hi)).1
            have HSW10 := Lib.hid (HSW9.out.tmod ht10 m10)
            have HX10 := Lib.hid (HX9.out.mod m10 (by have := HB0.out; omega))
            have HY10 := Lib.hid (HY9.out.mod m10 (by have := HB0.out; omega))
            have HBS10 := Lib.hid (HBS.out.mod m10 (fun e => hst.2.1 e.symm) (fun e => hst.2.2 e.symm))
            have HI10 := Lib.hid (HI9.out.mod m10 (fun e => hst.1 e.symm))
            have HM10 := Lib.hid (HM9.out.new m10 (fun i e => by rw [e]; exact htm.1))
            obtain ⟨a10, cap10, rfl, _, hel10, _⟩ := o10.els
            have HE10 := Lib.hid hel10
            have HB10 : Hid (∀ X : Addr, a10 = some X → X.block ≠ WB) := fun X e => by subst e; have h1 := (o10.blk X _ _ rfl).1; have h2 := HI9.out.lt; omega
            have HW10 : Hid (XB ≠ WB ∧ YB ≠ WB ∧ w.heap.size ≤ WB) := by have := HWB.out; show _ ∧ _ ∧ _; omega
            have hll : OUT.length ≤ 256 := by have h1 := HIN.out.ll; have h2 := HIN.out.ok.len; have h3 := HC7.out.sm.2.2.2.1; dsimp only at h1 h2; omega
            clear htm htB hst hap hrw o10 ht10 m10 hel10 HSW9 HX9 HY9 HBS HI9 HM9 HRW9 HR9 y3 y5 y6 HFA
            go_wp2_with fail
            go_loopw [20] (fun i' wr => ∃ i : Nat, i' = .int .i64 i ∧ i ≤ OUT.length ∧ Hid (IMap Tryz.prog 3 wr WB (wayL (keysL T ++ keysL (OUT.take i)))) ∧ Mod (· = WB) w10 wr) (fun i' _ => OUT.length - (intOf i').toNat)
            case atStart => exact ⟨0, rfl, Nat.zero_le _, by show IMap _ _ _ _ (wayL (keysL T ++ [])); rw [List.append_nil]; exact HI10.out, Mod.refl _ _⟩
            case round =>
              obtain ⟨i, rfl, hi, hI, hm⟩ := hrel
              obtain ⟨wo, hwo⟩ : ∃ wo : World, wo = wr := ⟨_, rfl⟩
              rw [← hwo] at hI hm ⊢
              clear hwo
              have HMR := Lib.hid hm
              have HMW := Lib.hid (HM10.out.new hm (fun i e => by rw [e]; exact HW10.out.2.2))
              clear hm
              by_cases hio : (i : Int) < OUT.length
              · obtain ⟨⟨x9, r9⟩, hkr⟩ : ∃ q, OUT[i]? = some q := ⟨_, List.getElem?_eq_getElem (by omega)⟩
                obtain ⟨X, rfl, p0, p1, p2⟩ := Fl.rqEl HE10.out (Nat.le_refl _) hkr
                have hXz : ∀ q, ¬ (X.add q).block = WB := fun q => by rw [Addr.add_block]; exact HB10.out X rfl
                have p0 := HMR.out.cell p0 (hXz _); have p1 := HMR.out.cell p1 (hXz _); have p2 := HMR.out.cell p2 (hXz _)
                obtain ⟨j, hj1, hjn, ⟨o, hlo, hoj⟩, hfj, hpm, htn⟩ := HAP.out.each _ (List.mem_of_getElem? hkr)
                dsimp only at hj1 hlo hpm htn
                subst hj1
                obtain ⟨pp, pt⟩ := r9
                dsimp only at hlo hpm htn p0 p2
                subst htn
                have hOK : keysL T ++ keysL (OUT.take (i + 1)) = (keysL T ++ keysL (OUT.take i)) ++ [(j : Int)] := by
                  rw [List.take_add_one, hkr]
                  show _ ++ keysL (OUT.take i ++ [((j : Int), _)]) = _
                  rw [keysL_snoc, List.append_assoc]
                have hnot : ¬ (j : Int) ∈ keysL T ++ keysL (OUT.take i) := fun hm => by
                  have h1 := HAP.out.nodup
                  dsimp only at h1
                  have h2 : OUT = OUT.take i ++ ((j : Int), (⟨pp, pt⟩ : Fl.Rq)) :: OUT.drop (i + 1) := by
                    conv => lhs; rw [← List.take_append_drop i OUT]
                    rw [List.drop_eq_getElem_cons (by omega), (List.getElem?_eq_some_iff.1 hkr).2]
                  rw [h2] at h1
                  unfold keysL at h1 hm
                  rw [List.map_append, List.map_cons, ← List.append_assoc] at h1
                  exact (List.nodup_append.1 h1).2.2 _ hm _ (List.mem_cons_self ..) rfl
                obtain ⟨rp, hrp, hrf⟩ : ∃ rp, lkL ks4' pp = some rp ∧ rp.f = o := by
                  rw [lk_absR HC7.out.e2] at hlo
                  exact Option.map_eq_some_iff.1 hlo
                have hrw := HRW10.out.modB HMR.out (fun i hi => HR10.out i hi)
                have HRWr := Lib.hid hrw.1
                have hwq := (Mod.refl (fun _ => False) wo).alloc (.cells #[.int .i64 pp, .int .i64 j, .int .i64 pt] 42)
                have HOF := Lib.hid (fun rn => refROf pp b4' base4 n y ks4' rp ((wo.alloc (.cells #[.int .i64 pp, .int .i64 j, .int .i64 pt] 42)).drewN rn) (HRWr.out.rd.new (hwq.drewN rn)) (by have := HC7.out.len; omega) HC7.out.rise.2 HC7.out.sm.1.2 hrp)
                have HQ := Lib.hid (Blk.new wo #[.int .i64 pp, .int .i64 j, .int .i64 pt] 42)
                have HMQ := Lib.hid hwq
                have r0 := (HRWr.out.new hwq).at.1
                have HRF : Hid (rp.f j = true) := by show _ = _; rw [hrf]; exact hoj
                have HRO : Hid (∀ k, n ≤ k → rp.f k = false) := fun k hk => by
                  have h1 := lk_absR HC7.out.e2 pp
                  rw [hrp] at h1
                  have h2 := lk_abs HC7.out.e1 pp
                  rw [h1] at h2
                  obtain ⟨ow, how, e⟩ := Option.map_eq_some_iff.1 h2.symm
                  rw [← e]
                  exact (HC7.out.sw.bd.sets _ (lk_some_mem how)).out k hk
                have HFJ := Lib.hid hfj
                have HPM := Lib.hid hpm
                have HJN : Hid (j < n ∧ n ≤ 100) := ⟨hjn, HN.out.2⟩
                have HNOT := Lib.hid hnot
                have HOK := Lib.hid hOK
                have hwl : (wayL (keysL T ++ keysL (OUT.take i))).length < maxLen := by
                  have h1 := way_le (keysL T ++ keysL (OUT.take i))
                  rw [List.length_append] at h1
                  have h2 : (keysL (OUT.take i)).length ≤ i := by unfold keysL; rw [List.length_map]; exact List.length_take_le _ _
                  have h3 : (keysL T).length = T.length := by unfold keysL; rw [List.length_map]
                  have h4 := HLT.out
                  unfold maxLen
                  omega
                have HWL := Lib.hid hwl
                have HI2 : Hid (i < OUT.length ∧ OUT.length ≤ 256) := by show _ ∧ _; omega
                clear hkr hoj hlo hrf hfj hpm hjn hnot hOK hrw hwq hrp hwl hXz
                go_wp2_with fail
                refine wp_region2 [] [] (by kernel_rfl) (by kernel_rfl) ?_
                repeat (first | (refine reg_anyT (by rfl) (fun K hK => ?_); go_simp; refine hK _ _ ?_; clear hK K) | (refine reg_read (by rfl) (fun K hK => ?_); go_simp; refine hK _ _ ?_; clear hK K))
                refine reg_eff (by rfl) (fun rn K hK => ?_); go_simp
                refine (HOF.out rn).mono ?_; rintro e w' ⟨⟨xa, xb, rfl, rs⟩, mo⟩
                refine hK _ _ ?_; clear hK K
                repeat (first | (refine reg_anyT (by rfl) (fun K hK => ?_); go_simp; refine hK _ _ ?_; clear hK K) | (refine reg_read (by rfl) (fun K hK => ?_); go_simp; refine hK _ _ ?_; clear hK K))
                refine reg_nil (fun nd => ?_)
                have hmq := (HMQ.out.trans mo.undrew).drewN nd
                have HQ12 := Lib.hid ((show Blk _ _ _ _ from HQ.out.mod mo.undrew (fun h => h)).drewN nd)
                have HRS := Lib.hid (rs.drewN nd)
                have HMB := Lib.hid hmq
                clear r0 p0 p1 p2 rs mo hmq HQ HMQ HOF
                generalize World.drewN w' nd = w12 at *
                generalize wo.heap.size = QB at *
                clear w'
                have hmay := sl_ints (HO.out.below (HMW.out.trans HMB.out).bel).may
                obtain ⟨hmlen, am, cm, hmv, hmc⟩ := hmay
                dsimp only at hmlen hmv hmc
                cases hmv
                have HMC := Lib.hid hmc
                have HMLN := Lib.hid hmlen
                have HY12 := Lib.hid (((HY10.out.mod HMR.out HW10.out.2.1).mod HMB.out fun h => h))
                have hml100 := HML.out
                clear hmlen hmc
                go_wp2_with fail
                go_loopw [24, 25] (fun bv kv wr_1 => ∃ (k : Nat) (B : Bool), kv = .int .i64 k ∧ bv = .bool B ∧ k ≤ ml ∧ Hid (B = decide (pp ∈ may.take k)) ∧ Mod (fun _ => False) w12 wr_1) (fun _ kv _ => ml - (intOf kv).toNat)
                case atStart => exact ⟨0, false, rfl, rfl, Nat.zero_le _, by show _ = _; simp, Mod.refl _ _⟩
                case round =>
                  obtain ⟨k, B, rfl, rfl, hk, hB, hmz12⟩ := hrel
                  obtain ⟨w13, hw13⟩ : ∃ w13 : World, w13 = wr := ⟨_, rfl⟩
                  rw [← hw13] at hmz12 ⊢
                  clear hw13
                  have y5 := (show Blk w13 _ _ _ from HY12.out.mod hmz12 (fun h => h)).cell 5
                  have q0 := (show Blk w13 _ _ _ from HQ12.out.mod hmz12 (fun h => h)).cell 0
                  have HZ12 := Lib.hid hmz12
                  by_cases hkm : (k : Int) < ml
                  · have hkm2 : k < ml := by omega
                    obtain ⟨mz, hmz⟩ : ∃ q, may[k]? = some q := ⟨_, List.getElem?_eq_getElem (by have := HMLN.out; omega)⟩
                    obtain ⟨XM, rfl, hcm⟩ := HMC.out k mz hmz
                    have hcm' := hmz12.cell hcm (fun h => h)
                    have hBK : decide (pp ∈ may.take (k + 1)) = (decide (pp ∈ may.take k) || decide (mz = pp)) := by
                      rw [List.take_add_one, hmz]
                      by_cases e : mz = pp
                      · simp [e]
                      · have e2 : ¬ pp = mz := fun h => e h.symm
                        simp [e, e2]
                    have HK3 : Hid (k < ml ∧ ml ≤ 100) := ⟨hkm2, hml100⟩
                    cases B with
                    | true =>
                      have HBK : Hid (true = decide (pp ∈ may.take (k + 1))) := by show _ = _; rw [hBK, ← hB.out]; rfl
                      clear hBK hB hmz hcm hcm' hmz12
                      go_wp2_with fail
                      go_quiet (fail)
                      go_wp2_with fail
                      have h3 := HK3.out
                      exact ⟨⟨k + 1, true, by go_num, rfl, by omega, HBK.out, HZ12.out.drewN _⟩, by simp [intOf]; omega⟩
                    | false =>
                      have HBK : Hid ((mz == pp) = decide (pp ∈ may.take (k + 1))) := by show _ = _; rw [hBK, ← hB.out]; rfl
                      clear hBK hB hmz hcm hmz12
                      go_wp2_with fail
                      go_quiet (fail)
                      go_wp2_with fail
                      have h3 := HK3.out
                      exact ⟨⟨k + 1, (mz == pp), by go_num, rfl, by omega, HBK.out, HZ12.out.drewN _⟩, by simp [intOf]; omega⟩
                  · have hkT : may.take k = may := List.take_of_length_le (by have := HMLN.out; omega)
                    have hBT : B = true := by rw [hB.out, hkT, decide_eq_true HPM.out]
                    subst hBT
                    have HMB2 := Lib.hid (HMB.out.trans hmz12)
                    have HQ13 := Lib.hid (show Blk _ _ _ _ from HQ12.out.mod hmz12 (fun h => h))
                    have HRS13 := Lib.hid (HRS.out.mod hmz12 (fun h => h) (fun h => h))
                    have HY13 := Lib.hid ((show Blk _ _ _ _ from HY12.out.mod hmz12 (fun h => h)))
                    clear hB hkT q0 hml100 hmz12
                    have q0 := HQ13.out.cell 0; have q1 := HQ13.out.cell 1; have q2 := HQ13.out.cell 2
                    have y3 := HY13.out.cell 3
                    have HMR13 := Lib.hid (HMR.out.trans (HMB2.out.mono (S' := (· = WB)) fun _ _ e => e.elim))
                    have HHR := Lib.hid (refHas xa xb n rp.f j w13 HRS13.out HRO.out)
                    rw [hasB_nat, HRF.out] at HHR
                    have HHB := Lib.hid (bitsHas s5 g5 n f j w13 (HBS10.out.mod HMR13.out HSG.out.1 HSG.out.2))
                    rw [hasB_nat, HFJ.out] at HHB
                    have hji : I64 (j : Int) := Fl.i64_of (by have := HJN.out; omega) (by have := HJN.out; omega)
                    have hI13 := hI.out.mod HMB2.out (fun h => h)
                    have hlk := hI13.look Tryz.underlying3 Tryz.underlying38 (zeroBool w13) hji
                    rw [lk_way, if_neg HNOT.out] at hlk
                    obtain ⟨w14, hput, hI14, hm14, hz14⟩ := hI13.put Tryz.underlying3 Tryz.underlying38 HWL.out hji (.bool true)
                    rw [← wayL_snoc, ← HOK.out] at hI14
                    have HI14 := Lib.hid hI14
                    have HM14 := Lib.hid (HMR13.out.trans hm14)
                    have hxi2 : (Lit.int .i64 (j : Int)).wf = true := hji
                    clear hI13 hI14 hm14 hz14 hji
                    go_wp2_with fail
                    refine HHR.out.mono ?_; rintro e w15 ⟨rfl, rfl⟩
                    go_wp2_with fail
                    refine HHB.out.mono ?_; rintro e w15 ⟨rfl, rfl⟩
                    go_wp2_with fail
                    go_roundw
                    case rel =>
                      have h1 := HI2.out
                      exact ⟨i + 1, by go_num, by omega, HI14.out, HM14.out⟩
                    case measure =>
                      have h1 := HI2.out
                      simp [intOf]
                      omega
              · have hOT : OUT.take i = OUT := List.take_of_length_le (by omega)
                rw [hOT] at hI
                have HSW11 := Lib.hid (HSW10.out.mod HMR.out (fun i hi => HWB.out.2.1 i hi))
                have HI11 := Lib.hid hI.out
                have hwl := way_len _ HAP.out.nodup
                dsimp only at hwl
                have hT2 : T2.length = T.length + OUT.length := HAP.out.len
                have hwl2 : (wayL (keysL T ++ keysL OUT)).length = T2.length := by
                  rw [hwl, List.length_append, hT2]
                  unfold keysL
                  rw [List.length_map, List.length_map]
                have HP2 := Lib.hid (connAsked s b4 M4 g4 t4 tM4 n y z u v ks4 T2 wo HSW11.out (by have := HLT.out; have h1 := HIN.out.ok.len; have h2 := HC7.out.sm.2.2.2.1; dsimp only at h1; omega) HIN.out.ok.i64)
                have HT2 := Lib.hid hT2
                have HTL := Lib.hid HLT.out
                have hsum : IntKind.i64.wrap ((T.length : Int) + (OUT.length : Int)) = (T2.length : Int) := by have := HLT.out; unfold IntKind.wrap; simp [IntKind.bits, IntKind.signed]; omega
                have HWL2 := Lib.hid hwl2
                clear hOT hI hwl hT2 hwl2
                go_wp2_with fail
                refine HP2.out.mono ?_; rintro e w12 ⟨v12, rfl, o12, m12⟩
                obtain ⟨a12, cap12, rfl, -, -, -⟩ := o12.els
                have hlen := (HI11.out.mod m12 (fun h => h)).len (T := 38) Tryz.underlying38 3
                rw [HWL2.out] at hlen
                have HMF := Lib.hid (HMW.out.trans m12)
                clear o12 m12
                go_wp2_with fail
                go_ret
                exact ⟨by simp, HMF.out⟩
          · have hnb : nextA n z u L now (some (n, f)) may zz T = (T, [], 1) := by
              unfold nextA
              rw [if_neg (by unfold rightA; rw [decide_eq_false hnow]; simp)]
            rw [hnb] at HF
            have HFA := Lib.hid HF
            clear HF hnb hnow
            go_wp2_with fail
            refine HFA.out.mono ?_; rintro e w10 ⟨⟨v10, rfl, o10⟩, ht10, m10⟩
            have HM10 := Lib.hid (HM9.out.new m10 (fun i e => by rw [e]; exact (HLOW.out tM4 (.inr (.inr (.inr rfl)))).1))
            clear o10 ht10 m10
            go_wp2_with fail
            go_ret
            exact ⟨rfl, HM10.out⟩
  · have hbad : ¬ BoardOk x y ∨ ¬ Fl.NewOk z u v := by
      by_cases h1 : BoardOk x y
      · exact .inr fun h2 => hok ⟨h1, h2⟩
      · exact .inl h1
    have HBAD := Lib.hid hbad
    clear hok hbad
    go_enter Tryz.func3, Tryz.ntmps3
    go_upto_region 1 with fail
    generalize (w.alloc (.cells #[.int .i64 x, .int .i64 y, .int .i64 z, .int .i64 u, .int .i64 v] 22)).alloc (.cells #[.int .i64 d, .int .i64 p, .int .i64 n', .int .i64 now, .slice a len cap, .slice ma ml mc, .int .u64 zz] TSc) = w0 at *
    obtain ⟨YB, hYB⟩ : ∃ b, b = w.heap.size + 1 := ⟨_, rfl⟩
    rw [← hYB] at Y0 ⊢
    obtain ⟨XB, hXB⟩ : ∃ b, b = w.heap.size := ⟨_, rfl⟩
    rw [← hXB] at X0 ⊢
    have HXY : Hid (XB < w.heap.size + 2 ∧ YB < w.heap.size + 2) := by show _ ∧ _; omega
    clear hXB hYB
    go_wp2_with fail
    refine HAW.out.mono ?_; rintro e w1 ⟨rfl, m1⟩
    have M1 := Lib.hid (M0.out.trans m1)
    have X1 := Lib.hid (X0.out.mod m1 (fun h => h))
    have Y1 := Lib.hid (Y0.out.mod m1 (fun h => h))
    have c0 := X1.out.cell 0; have c1 := X1.out.cell 1; have c2 := X1.out.cell 2; have c3 := X1.out.cell 3; have c4 := X1.out.cell 4
    clear m1 M0 X0 Y0 HAW
    have y5 := Y1.out.cell 5
    have HCN := Lib.hid (connNewBad x y z u v w1 HBAD.out (HT.out.mod M1.out fun h => h))
    go_wp2_with fail
    refine HCN.out.mono ?_; rintro e w2 ⟨rfl, m2⟩
    have HRN := Lib.hid (refNew18Bad x y z u v w2 HBAD.out)
    have X2 := Lib.hid (X1.out.mod m2 (fun h => h))
    have M2 := Lib.hid (M1.out.trans m2)
    clear c0 c1 c2 c3 c4 m2
    have c0 := X2.out.cell 0; have c1 := X2.out.cell 1; have c2 := X2.out.cell 2; have c3 := X2.out.cell 3; have c4 := X2.out.cell 4
    go_wp2_with fail
    refine HRN.out.mono ?_; rintro e w3 ⟨rfl, m3⟩
    have M3 := Lib.hid (M2.out.trans m3)
    clear m3 c0 c1 c2 c3 c4
    go_wp2_with fail
    go_ret
    exact ⟨rfl, M3.out⟩
end Go.Proofs.YtjmfhcliggjdgaaGreatDoor
