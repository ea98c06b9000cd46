/- The walk of the statement ConnFalls: the call returns true and turns nothing that was there; no condition but the table. -/
import Derived.Test.YtjmfhcliggjdgaaGreatDoorVCoK
import Derived.Deep.CutBlock
import Derived.Deep.CutRange
namespace Go.Proofs.YtjmfhcliggjdgaaGreatDoor
open Go Go.RowKit

set_option maxRecDepth 100000 in
set_option maxHeartbeats 4000000 in
theorem connFalls_walk (q : X5) (a1 : Option Addr) (len1 cap1 : Nat) (l : List Sc) (tt : Sc) (w : World) (hT : TabW w) (_ : True) (hl : IsScs w a1 len1 l) (ho : OkSc w.heap.size w tt) :
    Calls Tryz.prog 4 #[x5V q, .slice a1 len1 cap1, .agg (spC tt)] w fun e w' => e = .returned (.bool true) ∧ Below w.heap.size w w' := by
  refine Calls.mono (R := fun e w' => e = .returned (.bool true) ∧ Mod (fun _ => False) w w') ?_ (fun e w' ⟨h1, h2⟩ => ⟨h1, h2.bel⟩)
  obtain ⟨x, y, z, u, v⟩ := q
  obtain ⟨d, p, n', now, a, len, cap, bs, ma, ml, mc, may, zz⟩ := tt
  unfold x5V spC
  dsimp only
  have HL := Lib.hid hl
  have HT := Lib.hid hT
  have hll : (len1 : Int) ≤ 9223372036854775807 := hl.2.1
  have m0 := ((Mod.refl (fun _ => False) w).alloc (.cells #[.int .i64 x, .int .i64 y, .int .i64 z, .int .i64 u, .int .i64 v] 22)).alloc (.cells #[.int .i64 d, .int .i64 p, .int .i64 n', .int .i64 now, .slice a len cap, .slice ma ml mc, .int .u64 zz] TSc)
  have M0 := Lib.hid m0
  have HO := Lib.hid ho
  have X0 := Lib.hid ((Blk.new w #[.int .i64 x, .int .i64 y, .int .i64 z, .int .i64 u, .int .i64 v] 22).alloc (.cells #[.int .i64 d, .int .i64 p, .int .i64 n', .int .i64 now, .slice a len cap, .slice ma ml mc, .int .u64 zz] TSc))
  have Y0 := Lib.hid (show Blk ((w.alloc (.cells #[.int .i64 x, .int .i64 y, .int .i64 z, .int .i64 u, .int .i64 v] 22)).alloc (.cells #[.int .i64 d, .int .i64 p, .int .i64 n', .int .i64 now, .slice a len cap, .slice ma ml mc, .int .u64 zz] TSc)) (w.heap.size + 1) #[.int .i64 d, .int .i64 p, .int .i64 n', .int .i64 now, .slice a len cap, .slice ma ml mc, .int .u64 zz] TSc by
    have := Blk.new (w.alloc (.cells #[.int .i64 x, .int .i64 y, .int .i64 z, .int .i64 u, .int .i64 v] 22)) #[.int .i64 d, .int .i64 p, .int .i64 n', .int .i64 now, .slice a len cap, .slice ma ml mc, .int .u64 zz] TSc
    simpa using this)
  have HAW := Lib.hid (awake18 _ (hT.mod m0 fun h => h))
  clear hl hT m0 ho
  by_cases hp0 : x < 1
  · go_enter Tryz.func4, Tryz.ntmps4
    go_upto_region 1 with fail
    generalize (w.alloc (.cells #[.int .i64 x, .int .i64 y, .int .i64 z, .int .i64 u, .int .i64 v] 22)).alloc (.cells #[.int .i64 d, .int .i64 p, .int .i64 n', .int .i64 now, .slice a len cap, .slice ma ml mc, .int .u64 zz] TSc) = w0 at *
    obtain ⟨YB, hYB⟩ : ∃ b, b = w.heap.size + 1 := ⟨_, rfl⟩
    rw [← hYB] at Y0 ⊢
    obtain ⟨XB, hXB⟩ : ∃ b, b = w.heap.size := ⟨_, rfl⟩
    rw [← hXB] at X0 ⊢
    have HXY : Hid (XB < w.heap.size + 2 ∧ YB < w.heap.size + 2) := by show _ ∧ _; omega
    clear hXB hYB
    go_wp2_with fail
    refine HAW.out.mono ?_; rintro e w1 ⟨rfl, m1⟩
    have M1 := Lib.hid (M0.out.trans m1)
    have X1 := Lib.hid (X0.out.mod m1 (fun h => h))
    have Y1 := Lib.hid (Y0.out.mod m1 (fun h => h))
    have c0 := X1.out.cell 0; have c1 := X1.out.cell 1; have c2 := X1.out.cell 2; have c3 := X1.out.cell 3; have c4 := X1.out.cell 4
    clear m1 M0 X0 Y0 HAW
    go_wp2_with fail
    go_ret
    exact ⟨rfl, M1.out⟩
  by_cases hp1 : 100 < x
  · go_enter Tryz.func4, Tryz.ntmps4
    go_upto_region 1 with fail
    generalize (w.alloc (.cells #[.int .i64 x, .int .i64 y, .int .i64 z, .int .i64 u, .int .i64 v] 22)).alloc (.cells #[.int .i64 d, .int .i64 p, .int .i64 n', .int .i64 now, .slice a len cap, .slice ma ml mc, .int .u64 zz] TSc) = w0 at *
    obtain ⟨YB, hYB⟩ : ∃ b, b = w.heap.size + 1 := ⟨_, rfl⟩
    rw [← hYB] at Y0 ⊢
    obtain ⟨XB, hXB⟩ : ∃ b, b = w.heap.size := ⟨_, rfl⟩
    rw [← hXB] at X0 ⊢
    have HXY : Hid (XB < w.heap.size + 2 ∧ YB < w.heap.size + 2) := by show _ ∧ _; omega
    clear hXB hYB
    go_wp2_with fail
    refine HAW.out.mono ?_; rintro e w1 ⟨rfl, m1⟩
    have M1 := Lib.hid (M0.out.trans m1)
    have X1 := Lib.hid (X0.out.mod m1 (fun h => h))
    have Y1 := Lib.hid (Y0.out.mod m1 (fun h => h))
    have c0 := X1.out.cell 0; have c1 := X1.out.cell 1; have c2 := X1.out.cell 2; have c3 := X1.out.cell 3; have c4 := X1.out.cell 4
    clear m1 M0 X0 Y0 HAW
    go_wp2_with fail
    go_ret
    exact ⟨rfl, M1.out⟩
  by_cases hok : BoardOk x y ∧ Fl.NewOk z u v
  · obtain ⟨n, rfl⟩ : ∃ n : Nat, x = (n : Int) := ⟨x.toNat, by have := hok.1; unfold BoardOk at this; omega⟩
    have HOKB := Lib.hid hok.1
    have HOKF := Lib.hid hok.2
    have HN : Hid (1 ≤ n ∧ n ≤ 100) := by show _ ∧ _; omega
    clear hok
    go_enter Tryz.func4, Tryz.ntmps4
    go_upto_region 1 with fail
    generalize (w.alloc (.cells #[.int .i64 (n : Int), .int .i64 y, .int .i64 z, .int .i64 u, .int .i64 v] 22)).alloc (.cells #[.int .i64 d, .int .i64 p, .int .i64 n', .int .i64 now, .slice a len cap, .slice ma ml mc, .int .u64 zz] TSc) = w0 at *
    obtain ⟨YB, hYB⟩ : ∃ b, b = w.heap.size + 1 := ⟨_, rfl⟩
    rw [← hYB] at Y0 ⊢
    obtain ⟨XB, hXB⟩ : ∃ b, b = w.heap.size := ⟨_, rfl⟩
    rw [← hXB] at X0 ⊢
    have HXY : Hid (XB < w.heap.size + 2 ∧ YB < w.heap.size + 2) := by show _ ∧ _; omega
    clear hXB hYB
    go_wp2_with fail
    refine HAW.out.mono ?_; rintro e w1 ⟨rfl, m1⟩
    have M1 := Lib.hid (M0.out.trans m1)
    have X1 := Lib.hid (X0.out.mod m1 (fun h => h))
    have Y1 := Lib.hid (Y0.out.mod m1 (fun h => h))
    have c0 := X1.out.cell 0; have c1 := X1.out.cell 1; have c2 := X1.out.cell 2; have c3 := X1.out.cell 3; have c4 := X1.out.cell 4
    clear m1 M0 X0 Y0 HAW
    have HCN := Lib.hid (connNew n y z u v w1 HOKB.out HOKF.out (HT.out.mod M1.out fun h => h))
    go_wp2_with fail
    refine HCN.out.mono ?_; rintro e w2 ⟨s, b, M, g, t, tM, rfl, h2, m2, l2⟩
    have H2 := Lib.hid h2
    have M2 := Lib.hid (M1.out.trans m2)
    have X2 := Lib.hid (X1.out.mod m2 (fun h => h))
    have Y2 := Lib.hid (Y1.out.mod m2 (fun h => h))
    have L2b : Hid (∀ i, SWb s b M g t tM [] i → w1.heap.size ≤ i) := l2
    have HM12 := Lib.hid m2
    have HT1 := Lib.hid (HT.out.mod M1.out fun h => h)
    obtain ⟨B0, hB0⟩ : ∃ b, b = w1.heap.size := ⟨_, rfl⟩
    have HB0 : Hid (w.heap.size ≤ B0 ∧ XB < B0 ∧ YB < B0) := by have h1 := X1.out.lt; have h2 := Y1.out.lt; have h3 := M1.out.size; show _ ∧ _ ∧ _; omega
    have HBE := Lib.hid hB0
    clear hB0
    clear c0 c1 c2 c3 c4 h2 m2 l2 HCN M1 X1 Y1
    have c0 := X2.out.cell 0; have c1 := X2.out.cell 1; have c2 := X2.out.cell 2; have c3 := X2.out.cell 3; have c4 := X2.out.cell 4
    have HRN := Lib.hid (refNew18 n y z u v w2 HOKB.out HOKF.out)
    go_wp2_with fail
    refine HRN.out.mono ?_; rintro e w3 ⟨r, b', base, t', tb, rfl, h3, m3, l3⟩
    have tw := TwoS.start HOKB.out HOKF.out HT1.out H2.out HM12.out L2b.out h3 m3 l3
    rw [← HBE.out] at tw
    have TW := Lib.hid tw
    have M3 := Lib.hid (M2.out.trans m3)
    have X3 := Lib.hid (X2.out.mod m3 (fun h => h))
    have Y3 := Lib.hid (Y2.out.mod m3 (fun h => h))
    clear h3 m3 l3 HRN H2 M2 L2b X2 Y2 c0 c1 c2 c3 c4 tw HM12 HT1 HBE
    go_upto_block 0 with fail
    go_cut [12] from 78 to 101 (fun v' wx => ∃ (L : LB) (T : LT), Hid (TwoS wx B0 s r n y z u v L T) ∧ Hid (Blk wx XB #[.int .i64 (n : Int), .int .i64 y, .int .i64 z, .int .i64 u, .int .i64 v] 22) ∧ Hid (Blk wx YB #[.int .i64 d, .int .i64 p, .int .i64 n', .int .i64 now, .slice a len cap, .slice ma ml mc, .int .u64 zz] TSc) ∧ Hid (Mod (fun _ => False) w wx))
    case first =>
      go_wp2_with fail
      go_loopw [12] (fun v' wr => ∃ (k : Nat) (L : LB) (T : LT), v' = .int .i64 k ∧ k ≤ len1 ∧ k ≤ 60 ∧ Hid (TwoS wr B0 s r n y z u v L T) ∧ Hid (Blk wr XB #[.int .i64 (n : Int), .int .i64 y, .int .i64 z, .int .i64 u, .int .i64 v] 22) ∧ Hid (Blk wr YB #[.int .i64 d, .int .i64 p, .int .i64 n', .int .i64 now, .slice a len cap, .slice ma ml mc, .int .u64 zz] TSc) ∧ Mod (fun _ => False) w wr) (fun v' _ => 60 - (intOf v').toNat)
      case atStart => exact ⟨0, [], [], rfl, Nat.zero_le _, Nat.zero_le _, TW, X3, Y3, M3.out⟩
      case round =>
        obtain ⟨k, L, T, rfl, hk, hk60, hB, hX, hY, hm⟩ := hrel
        by_cases hlt : k < len1 ∧ k < 60
        · obtain ⟨hlt1, hlt2⟩ := hlt
          have hlt2' : (k : Int) < 60 := by omega
          obtain ⟨sc, ht⟩ : ∃ t, l[k]? = some t := ⟨_, List.getElem?_eq_getElem (by rw [HL.out.1]; exact hlt1)⟩
          obtain ⟨hot, X, rfl, c0, c1, c2, c3, c4, c5, c6⟩ := HL.out.at hm.bel ht
          have HOS := Lib.hid (hot.mono HB0.out.1)
          have HM := Lib.hid hm
          have hlt1' : (k : Int) < len1 := by omega
          clear ht hot hm
          by_cases hml : sc.ml ≤ 100
          · have hml' : ¬ (100 : Int) < sc.ml := by omega
            have HST := Lib.hid (step18 sc B0 s r n y z u v L T wr hB.out HOS.out hml)
            go_wp2_with fail
            refine HST.out.mono ?_; rintro e w5 ⟨rfl, b5, m5⟩
            have hm5 : Mod (fun _ => False) w w5 := HM.out.new m5 (fun i hi => Nat.le_trans HB0.out.1 hi)
            have HX5 := Lib.hid (hX.out.mod m5 (by have := HB0.out; omega))
            have HY5 := Lib.hid (hY.out.mod m5 (by have := HB0.out; omega))
            obtain ⟨S5, hS5⟩ : ∃ x, x = stepC n y z u v L T sc := ⟨_, rfl⟩
            rw [← hS5] at b5
            obtain ⟨L5, T5⟩ := S5
            have B5 := Lib.hid b5
            have HM5 := Lib.hid hm5
            clear b5 m5 hm5 hS5 hB HM HST c0 c1 c2 c3 c4 c5 c6 hX hY
            go_wp2_with fail
            exact ⟨⟨k + 1, L5, T5, by go_num, by omega, by omega, B5, HX5, HY5, HM5.out⟩, by simp [intOf]; omega⟩
          · have hml' : (100 : Int) < sc.ml := by omega
            go_wp2_with fail
            go_ret
            exact ⟨rfl, HM.out⟩
        · have hend : (k : Int) < len1 → ¬ (k : Int) < 60 := by omega
          by_cases h6 : (k : Int) < len1
          · have h7 : ¬ (k : Int) < 60 := hend h6
            clear hend
            go_wp2_with fail
            go_meet
            exact ⟨L, T, hB, hX, hY, hm⟩
          · clear hend
            go_wp2_with fail
            go_meet
            exact ⟨L, T, hB, hX, hY, hm⟩
    case rest =>
      obtain ⟨L, T, B4, hX4, hY4, hm4⟩ := hcut
      obtain ⟨w4, hw4⟩ : ∃ w4 : World, w4 = wc := ⟨_, rfl⟩
      rw [← hw4] at B4 hX4 hY4 hm4 ⊢
      clear hw4
      obtain ⟨b4, M4, g4, t4, tM4, ks4, b4', base4, t4', tb4, ks4', hT4⟩ := id B4.out
      have HC4 := Lib.hid hT4
      have HLT : Hid (T.length ≤ 256) := hT4.len.2.2.2.2
      have c0 := hX4.out.cell 0
      have y4 := hY4.out.cell 4
      have hn1 := HN.out
      have HS := Lib.hid (setsOk n a len cap bs w4 (by omega) (HO.out.below hm4.out.bel).sl HO.out.by8)
      clear hT4 B4 hn1 TW X3 Y3 M3
      go_wp2_with fail
      refine HS.out.mono ?_; rintro e w5 ⟨s5, g5, r5, q5, rfl, bs5, -, m5, l5, -⟩
      have ma := (Mod.refl (fun _ => False) w5).alloc (.map #[] 0)
      obtain ⟨f, hf⟩ : ∃ f, f = F13 n bs := ⟨_, rfl⟩
      rw [← hf] at bs5
      have HBS := Lib.hid (bs5.mod ma (fun h => h) (fun h => h))
      have HC6 := Lib.hid (HC4.out.new (m5.trans ma))
      have HX6 := Lib.hid (hX4.out.mod (m5.trans ma) (fun h => h))
      have HY6 := Lib.hid (hY4.out.mod (m5.trans ma) (fun h => h))
      have HM6 := Lib.hid (hm4.out.trans (m5.trans ma))
      have HIM := Lib.hid (IMap.made Tryz.prog 3 w5)
      have HWB : Hid (w5.heap.size < (w5.alloc (.map #[] 0)).heap.size ∧ (∀ i, SWb s b4 M4 g4 t4 tM4 ks4 i → i ≠ w5.heap.size ∧ i ≠ s5 ∧ i ≠ g5) ∧ s5 ≠ w5.heap.size ∧ g5 ≠ w5.heap.size ∧ XB < w5.heap.size ∧ YB < w5.heap.size ∧ w.heap.size ≤ w5.heap.size) := by
        have h1 := bs5.lt
        have h2 := (hX4.out.mod m5 fun h => h).lt
        have h3 := (hY4.out.mod m5 fun h => h).lt
        have h4 := hm4.out.size
        have h5 := m5.size
        refine ⟨by simp, fun i hi => ?_, by omega, by omega, h2, h3, by omega⟩
        have := HC4.out.sw.lt hi
        have := l5.1
        have := l5.2.1
        omega
      have hmm := @run_makeMap Tryz.prog
      clear bs5 ma m5 l5 hf HC4 hX4 hY4 hm4 c0 y4 HS
      go_upto_region 16 with fail
      clear hmm
      generalize w5.alloc (.map #[] 0) = w6 at *
      generalize w5.heap.size = WB at *
      clear w5
      have HP1 := Lib.hid (connAsked s b4 M4 g4 t4 tM4 n y z u v ks4 T w6 HC6.out.sw HLT.out HC6.out.okt.i64)
      go_wp2_with fail
      refine HP1.out.mono ?_; rintro e w7 ⟨v7, rfl, o7, m7⟩
      obtain ⟨a7, cap7, rfl, _, hel, _⟩ := o7.els
      have HB7 : Hid (∀ X : Addr, a7 = some X → X.block ≠ WB) := fun X e => by subst e; have h1 := (o7.blk X _ _ rfl).1; have h2 := HWB.out.1; omega
      have HE := Lib.hid hel
      have HC7 := Lib.hid (HC6.out.new m7)
      have HBS7 := Lib.hid (HBS.out.mod m7 (fun h => h) (fun h => h))
      have HX7 := Lib.hid (HX6.out.mod m7 (fun h => h))
      have HY7 := Lib.hid (HY6.out.mod m7 (fun h => h))
      have HM7 := Lib.hid (HM6.out.trans m7)
      have HIM7 := Lib.hid (HIM.out.mod m7 (fun h => h))
      clear o7 hel m7 HC6 HBS HX6 HY6 HM6 HIM HP1
      have hlt256 := HLT.out
      go_wp2_with fail
      go_loopw [17, 18] (fun v' i' wr => ∃ k : Nat, v' = .int .i64 (Fl.many (T.take k) 0 : Nat) ∧ i' = .int .i64 k ∧ k ≤ T.length ∧ Hid (IMap Tryz.prog 3 wr WB (wayL (keysL (T.take k)))) ∧ Mod (· = WB) w7 wr) (fun _ i' _ => T.length - (intOf i').toNat)
      case atStart => exact ⟨0, rfl, rfl, Nat.zero_le _, HIM7.out, Mod.refl _ _⟩
      case round =>
        obtain ⟨k, rfl, rfl, hk, hI, hm⟩ := hrel
        by_cases hlt' : (k : Int) < T.length
        · obtain ⟨⟨x9, r9⟩, hkr⟩ : ∃ q, T[k]? = some q := ⟨_, List.getElem?_eq_getElem (by omega)⟩
          obtain ⟨X, rfl, p0, p1, p2⟩ := Fl.rqEl HE.out (Nat.le_refl _) hkr
          have hXz : ∀ q, ¬ (X.add q).block = WB := fun q => by rw [Addr.add_block]; exact HB7.out X rfl
          have q0 := hm.cell p0 (hXz _); have q1 := hm.cell p1 (hXz _)
          have hxi := HC7.out.okt.i64 _ (List.mem_of_getElem? hkr)
          have hTK : keysL (T.take (k + 1)) = keysL (T.take k) ++ [x9] := by unfold keysL; rw [List.take_add_one, hkr, List.map_append]; rfl
          have hMK : Fl.many (T.take (k + 1)) 0 = Fl.many (T.take k) 0 + if r9.p = 0 then 1 else 0 := by
            unfold Fl.many
            rw [List.take_add_one, hkr, List.filter_append, List.length_append]
            by_cases e : r9.p = 0 <;> simp [e]
          have hml9 : Fl.many (T.take k) 0 ≤ 256 := by have h1 := Fl.many_le (T.take k) 0; have h2 : (T.take k).length ≤ k := List.length_take_le _ _; omega
          have hwl : (wayL (keysL (T.take k))).length < maxLen := by
            have h1 := way_le (keysL (T.take k))
            have h2 : (keysL (T.take k)).length ≤ k := by unfold keysL; rw [List.length_map]; exact List.length_take_le _ _
            unfold maxLen
            omega
          obtain ⟨w9, hput, hI9, hm9, hz9⟩ := hI.out.put Tryz.underlying3 Tryz.underlying38 hwl hxi (.bool true)
          rw [← wayL_snoc, ← hTK] at hI9
          have q0' := hm.trans hm9 |>.cell p0 (hXz _)
          have HI9 := Lib.hid hI9
          have HM9 := Lib.hid (hm.trans hm9)
          have HMK := Lib.hid hMK
          obtain ⟨mk, hmk⟩ : ∃ mk, mk = Fl.many (T.take k) 0 := ⟨_, rfl⟩
          rw [← hmk] at HMK hml9 ⊢
          have hk1 : T.length - (k + 1) < T.length - k := by omega
          have hxi2 : (Lit.int .i64 x9).wf = true := hxi
          clear hkr p0 p1 p2 hm hI hI9 hm9 hz9 hwl hMK hTK hmk
          by_cases e : r9.p = 0
          · have e' : (r9.p == 0) = true := by simpa using e
            have HMM := Lib.hid (show Fl.many (T.take (k + 1)) 0 = mk + 1 by rw [HMK.out, if_pos e])
            clear e
            go_wp2_with fail
            exact ⟨⟨k + 1, by rw [HMM.out]; rfl, by go_num, by omega, HI9.out, HM9.out⟩, by simp [intOf]; omega⟩
          · have e' : (r9.p == 0) = false := by simpa using e
            have HMM := Lib.hid (show Fl.many (T.take (k + 1)) 0 = mk by rw [HMK.out, if_neg e, Nat.add_zero])
            clear e
            go_wp2_with fail
            exact ⟨⟨k + 1, by rw [HMM.out], by go_num, by omega, HI9.out, HM9.out⟩, by simp [intOf]; omega⟩
        · have hkT : T.take k = T := List.take_of_length_le (by omega)
          rw [hkT] at hI ⊢
          obtain ⟨w8, hw8⟩ : ∃ w8 : World, w8 = wr := ⟨_, rfl⟩
          rw [← hw8] at hI hm ⊢
          have HX8 := Lib.hid (HX7.out.mod hm (by have := HWB.out; omega))
          have HY8 := Lib.hid (HY7.out.mod hm (by have := HWB.out; omega))
          have HSW8 := Lib.hid (HC7.out.sw.mod hm (fun i hi => (HWB.out.2.1 i hi).1))
          have HBS8 := Lib.hid (HBS7.out.mod hm HWB.out.2.2.1 HWB.out.2.2.2.1)
          have HT8 := Lib.hid (HT.out.mod (HM7.out.new hm (fun i e => by have := HWB.out.2.2.2.2.2.2; omega)) fun h => h)
          have HM8 := Lib.hid (HM7.out.new hm (fun i e => by have := HWB.out.2.2.2.2.2.2; omega))
          have HI8 := Lib.hid hI.out
          have y3 := HY8.out.cell 3
          clear hkT hm hI hw8 HX7 HY7 HBS7 HM7
          by_cases hnow : 0 ≤ now ∧ now ≤ 1099511627776
          · have hnow1 : ¬ now < 0 := by omega
            have hnow2 : ¬ 1099511627776 < now := by omega
            have HF := connFall now (some s5) (some (n, f)) s b4 M4 g4 t4 tM4 n y z u v ks4 T w8 HSW8.out HT8.out (lo := 0) (.inr ⟨s5, g5, n, f, rfl, rfl, HBS8.out, Nat.zero_le _, Nat.zero_le _⟩) HC7.out.okt HC7.out.sm.2.2.2.1 HC7.out.kn HC7.out.sm.1.2.2 (by have h1 := HC7.out.low tM4 (.inl (.inr (.inr (.inr rfl)))); have h2 := HC7.out.tab.2; omega)
            rw [fallA_some hnow] at HF
            dsimp only at HF
            obtain ⟨F, hF⟩ : ∃ F, F = outF n f T := ⟨_, rfl⟩
            have hls := fallR_list (mo := z) (ea := u) (F := outF n f T) hnow n 0 T [] (by have := HN.out; omega) (fun j h1 h2 h3 => (outF_none (by omega) h3).2)
            rw [List.nil_append] at hls
            rw [hls] at HF
            rw [← hF] at HF
            obtain ⟨RM, hRM⟩ : ∃ r, r = roomN z u 0 T := ⟨_, rfl⟩
            rw [← hRM] at HF
            have hri := room_int (p := 0) HC7.out.okt
            rw [← hRM] at hri
            have HRI := Lib.hid hri
            obtain ⟨OUT, hOUT⟩ : ∃ o, o = ((freeL F n 0).take RM).map fun (j : Nat) => ((j : Int), (⟨0, now⟩ : Fl.Rq)) := ⟨_, rfl⟩
            rw [← hOUT] at HF
            have HOUT := Lib.hid hOUT
            have HFF := Lib.hid hF
            have HFA := Lib.hid HF
            have HKF := Lib.hid HOKF.out
            clear HF hls hF hRM hri hOUT hnow
            go_wp2_with fail
            refine HFA.out.mono ?_; rintro e w10 ⟨⟨v10, rfl, o10⟩, -, m10⟩
            obtain ⟨a10, cap10, rfl, _, hel10, _⟩ := o10.els
            have HE10 := Lib.hid hel10
            have htm : ∀ i, SWb s b4 M4 g4 t4 tM4 ks4 i → B0 ≤ i := fun i hi => HC7.out.low i (.inl hi)
            have htm4 := htm tM4 (.inr (.inr (.inr rfl)))
            have HX10 := Lib.hid (HX8.out.mod m10 (by have := HB0.out; omega))
            have HY10 := Lib.hid (HY8.out.mod m10 (by have := HB0.out; omega))
            have HBS10 := Lib.hid (HBS8.out.mod m10 (fun e => (HWB.out.2.1 tM4 (.inr (.inr (.inr rfl)))).2.1 e.symm) (fun e => (HWB.out.2.1 tM4 (.inr (.inr (.inr rfl)))).2.2 e.symm))
            have HI10 := Lib.hid (HI8.out.mod m10 (fun e => (HWB.out.2.1 tM4 (.inr (.inr (.inr rfl)))).1 e.symm))
            have HM10 := Lib.hid (HM8.out.new m10 (fun i e => by have := HB0.out; omega))
            have c2 := HX10.out.cell 2; have c3 := HX10.out.cell 3
            have hsub1 : IntKind.i64.wrap (z - (T.length : Int)) = z - T.length := by
              have h1 := HKF.out; unfold Fl.NewOk at h1; unfold IntKind.wrap; simp [IntKind.bits, IntKind.signed]; omega
            have hsub2 : IntKind.i64.wrap (u - ((Fl.many T 0 : Nat) : Int)) = u - (Fl.many T 0 : Nat) := by
              have h1 := HKF.out; have h2 := Fl.many_le T 0; unfold Fl.NewOk at h1; unfold IntKind.wrap; simp [IntKind.bits, IntKind.signed]; omega
            clear o10 hel10 m10 htm htm4 HX8 HY8 HBS8 HI8 HM8 y3 HFA
            go_wp2_with fail
            have hroom : min (z - (T.length : Int)) (u - ((Fl.many T 0 : Nat) : Int)) = ((RM : Nat) : Int) := HRI.out.symm
            rw [hroom]
            clear c2 c3 hsub1 hsub2 hroom
            have hOL : OUT.length = min (freeL F n 0).length RM := by rw [HOUT.out, List.length_map, List.length_take]; omega
            have HOL := Lib.hid hOL
            have hfl := freeL_len F n 0
            have HFL := Lib.hid hfl
            clear hOL hfl
            go_loopw [21, 23] (fun k' i' wr => ∃ i : Nat, i' = .int .i64 i ∧ i ≤ n ∧ k' = .int .i64 ((min (freeL F i 0).length RM : Nat) : Int) ∧ Mod (fun _ => False) w10 wr) (fun _ i' _ => n - (intOf i').toNat)
            case atStart => exact ⟨0, rfl, Nat.zero_le _, by simp [freeL], Mod.refl _ _⟩
            case round =>
              obtain ⟨i, rfl, hi, rfl, hm⟩ := hrel
              have HMR := Lib.hid hm
              have HX11 := Lib.hid (HX10.out.mod hm (fun h => h))
              have c0 := HX11.out.cell 0
              by_cases hin : (i : Int) < n
              · have hin2 : i < n := by omega
                have hn100 := HN.out
                have HHA := Lib.hid (bitsHas s5 g5 n f i wr (HBS10.out.mod hm (fun h => h) (fun h => h)))
                rw [hasB_nat] at HHA
                have hi64 : I64 (i : Int) := Fl.i64_of (by omega) (by omega)
                have hlk := (HI10.out.mod hm (fun h => h)).look Tryz.underlying3 Tryz.underlying38 (zeroBool wr) hi64
                rw [lk_way] at hlk
                have hFi : F i = (f i || decide ((i : Int) ∈ keysL T)) := by rw [HFF.out]; exact outF_at hin2
                have hsn := freeL_snoc F i
                have hfi := freeL_len F i 0
                have hkk : ∀ q : Nat, q ≤ 300 → wrap64 ((q : Int) + 1) = ((q + 1 : Nat) : Int) := fun q hq => by unfold wrap64; omega
                have HKK := Lib.hid hkk
                have HI1 : Hid (i + 1 ≤ n ∧ n ≤ 100) := by show _ ∧ _; omega
                clear hkk hm
                cases hf : f i with
                | true =>
                  have HSK : Hid (min (freeL F (i + 1) 0).length RM = min (freeL F i 0).length RM) := by show _ = _; rw [hsn, hFi, hf]; simp
                  rw [hf] at HHA
                  clear hlk hFi hsn hf hfi
                  go_wp2_with fail
                  refine HHA.out.mono ?_; rintro e w12 ⟨rfl, rfl⟩
                  go_wp2_with fail
                  go_roundw
                  case rel =>
                    have h1 := HI1.out
                    exact ⟨i + 1, by go_num, by omega, by rw [HSK.out], HMR.out⟩
                  case measure => have h1 := HI1.out; simp [intOf]; omega
                | false =>
                  rw [hf] at HHA hFi
                  by_cases hm2 : (i : Int) ∈ keysL T
                  · have HSK : Hid (min (freeL F (i + 1) 0).length RM = min (freeL F i 0).length RM) := by show _ = _; rw [hsn, hFi, decide_eq_true hm2]; simp
                    rw [if_pos hm2] at hlk
                    clear hFi hsn hf hm2 hfi
                    go_wp2_with fail
                    refine HHA.out.mono ?_; rintro e w12 ⟨rfl, rfl⟩
                    go_wp2_with fail
                    go_roundw
                    case rel =>
                      have h1 := HI1.out
                      exact ⟨i + 1, by go_num, by omega, by rw [HSK.out], HMR.out⟩
                    case measure => have h1 := HI1.out; simp [intOf]; omega
                  · rw [if_neg hm2] at hlk
                    have hFf : F i = false := by rw [hFi, decide_eq_false hm2]; rfl
                    rw [hFf, if_neg (by decide)] at hsn
                    obtain ⟨K, hK⟩ : ∃ K, K = (freeL F i 0).length := ⟨_, rfl⟩
                    have hK1 : (freeL F (i + 1) 0).length = K + 1 := by rw [hsn, List.length_append, hK]; rfl
                    have HK1 := Lib.hid hK1
                    by_cases hKR : K < RM
                    · have hat := freeL_at F hin2 hFf
                      rw [← hK] at hat
                      have hoa : OUT[K]? = some ((i : Int), (⟨0, now⟩ : Fl.Rq)) := by rw [HOUT.out, List.getElem?_map, List.getElem?_take, if_pos hKR, hat]; rfl
                      have hKO : K < OUT.length := (List.getElem?_eq_some_iff.1 hoa).1
                      obtain ⟨X, rfl, p0, p1, p2⟩ := Fl.rqEl HE10.out (Nat.le_refl _) hoa
                      have p0 := HMR.out.cell p0 (fun h => h); have p1 := HMR.out.cell p1 (fun h => h); have p2 := HMR.out.cell p2 (fun h => h)
                      have y3 := (HY10.out.mod HMR.out (fun h => h)).cell 3
                      dsimp only at p0 p2
                      rw [← hK] at hfi
                      have hst := kStep hfi (Nat.le_trans hi hn100.2) hKR
                      have hmn : min (freeL F i 0).length RM = K := by rw [← hK]; exact hst.2.2
                      rw [hmn]
                      obtain ⟨hd1, hd1', _, _⟩ := dLe hKR
                      obtain ⟨hd2, hd2', hd3, hKO2⟩ := dLe hKO
                      have HKW := Lib.hid hst.1
                      have HMN : Hid (min (freeL F (i + 1) 0).length RM = K + 1) := by show _ = _; rw [HK1.out]; exact hst.2.1
                      have HI2 : Hid (i < n) := hin2
                      clear hst
                      clear hFi hsn hf hm2 hfi hat hoa hmn hFf hK hK1
                      go_wp2_with fail
                      refine HHA.out.mono ?_; rintro e w12 ⟨rfl, rfl⟩
                      go_wp2_with fail
                      go_quiet (fail)
                      go_wp2_with fail
                      have h1 := HI1.out
                      exact ⟨⟨i + 1, by go_num, by omega, by rw [HKW.out, HMN.out], HMR.out.drewN _⟩, by simp [intOf]; omega⟩
                    · have hmn : min (freeL F i 0).length RM = RM := by rw [← hK]; omega
                      rw [hmn]
                      have HMN : Hid (min (freeL F (i + 1) 0).length RM = RM) := by show _ = _; rw [HK1.out]; omega
                      have hd1 : decide ((RM : Int) ≤ (RM : Int)) = true := by simp
                      clear hFi hsn hf hm2 hfi hmn hFf hK hK1
                      go_wp2_with fail
                      refine HHA.out.mono ?_; rintro e w12 ⟨rfl, rfl⟩
                      go_wp2_with fail
                      go_roundw
                      case rel =>
                        have h1 := HI1.out
                        exact ⟨i + 1, by go_num, by omega, by rw [HMN.out], HMR.out⟩
                      case measure => have h1 := HI1.out; simp [intOf]; omega
              · have hie : i = n := by omega
                subst hie
                have HOL2 := Lib.hid HOL.out.symm
                clear hm hin
                go_wp2_with fail
                go_ret
                exact ⟨by rw [HOL2.out]; simp, HM10.out.trans HMR.out⟩
          · have hbn : now < 0 ∨ 1099511627776 < now := by omega
            by_cases h0 : now < 0
            · clear hbn hnow
              go_wp2_with fail
              go_ret
              exact ⟨rfl, HM8.out⟩
            · have h1 : 1099511627776 < now := hbn.resolve_left h0
              clear hbn hnow
              go_wp2_with fail
              go_ret
              exact ⟨rfl, HM8.out⟩
  · have hbad : ¬ BoardOk x y ∨ ¬ Fl.NewOk z u v := by
      by_cases h1 : BoardOk x y
      · exact .inr fun h2 => hok ⟨h1, h2⟩
      · exact .inl h1
    have HBAD := Lib.hid hbad
    clear hok hbad
    go_enter Tryz.func4, Tryz.ntmps4
    go_upto_region 1 with fail
    generalize (w.alloc (.cells #[.int .i64 x, .int .i64 y, .int .i64 z, .int .i64 u, .int .i64 v] 22)).alloc (.cells #[.int .i64 d, .int .i64 p, .int .i64 n', .int .i64 now, .slice a len cap, .slice ma ml mc, .int .u64 zz] TSc) = w0 at *
    obtain ⟨YB, hYB⟩ : ∃ b, b = w.heap.size + 1 := ⟨_, rfl⟩
    rw [← hYB] at Y0 ⊢
    obtain ⟨XB, hXB⟩ : ∃ b, b = w.heap.size := ⟨_, rfl⟩
    rw [← hXB] at X0 ⊢
    have HXY : Hid (XB < w.heap.size + 2 ∧ YB < w.heap.size + 2) := by show _ ∧ _; omega
    clear hXB hYB
    go_wp2_with fail
    refine HAW.out.mono ?_; rintro e w1 ⟨rfl, m1⟩
    have M1 := Lib.hid (M0.out.trans m1)
    have X1 := Lib.hid (X0.out.mod m1 (fun h => h))
    have Y1 := Lib.hid (Y0.out.mod m1 (fun h => h))
    have c0 := X1.out.cell 0; have c1 := X1.out.cell 1; have c2 := X1.out.cell 2; have c3 := X1.out.cell 3; have c4 := X1.out.cell 4
    clear m1 M0 X0 Y0 HAW
    have HCN := Lib.hid (connNewBad x y z u v w1 HBAD.out (HT.out.mod M1.out fun h => h))
    go_wp2_with fail
    refine HCN.out.mono ?_; rintro e w2 ⟨rfl, m2⟩
    have HRN := Lib.hid (refNew18Bad x y z u v w2 HBAD.out)
    have X2 := Lib.hid (X1.out.mod m2 (fun h => h))
    have M2 := Lib.hid (M1.out.trans m2)
    clear c0 c1 c2 c3 c4 m2
    have c0 := X2.out.cell 0; have c1 := X2.out.cell 1; have c2 := X2.out.cell 2; have c3 := X2.out.cell 3; have c4 := X2.out.cell 4
    go_wp2_with fail
    refine HRN.out.mono ?_; rintro e w3 ⟨rfl, m3⟩
    have M3 := Lib.hid (M2.out.trans m3)
    clear m3 c0 c1 c2 c3 c4
    go_wp2_with fail
    go_ret
    exact ⟨rfl, M3.out⟩
end Go.Proofs.YtjmfhcliggjdgaaGreatDoor
