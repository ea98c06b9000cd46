/- The walk of the statement TopSwarm: the call returns true and turns nothing that was there; no condition but the table. -/
import Derived.Test.YtfopglaagnbacaaDoorTsB
namespace Go.Proofs.YtfopglaagnbacaaDoor
open Go Go.RowKit

set_option maxRecDepth 100000 in
set_option maxHeartbeats 4000000 in
theorem topSwarm_walk (n0 : Int) (a1 : Option Addr) (len1 cap1 : Nat) (l : List By) (q : X2) (w : World) (hT : TabW w) (_ : (Lit.int .i64 n0).wf = true) (hl : IsBss w a1 len1 l) (_ : True) :
    Calls Tryd.prog 3 #[.int .i64 n0, .slice a1 len1 cap1, x2V q] w fun e w' => e = .returned (.bool true) ∧ Below w.heap.size w w' := by
  refine Calls.mono (R := fun e w' => e = .returned (.bool true) ∧ Mod (fun _ => False) w w') ?_ (fun e w' ⟨h1, h2⟩ => ⟨h1, h2.bel⟩)
  obtain ⟨y, z⟩ := q
  unfold x2V
  dsimp only
  have HL := Lib.hid hl
  have HT := Lib.hid hT
  have HG : Hid (gTab < w.heap.size) := hT.lt
  have hll : (len1 : Int) ≤ 9223372036854775807 := hl.2.1
  have m0 := (Mod.refl (fun _ => False) w).alloc (.cells #[.int .i64 y, .int .i64 z] 23)
  have M0 := Lib.hid m0
  have X0 := Lib.hid (Blk.new w #[.int .i64 y, .int .i64 z] 23)
  have HC0 := Lib.hid (connNew 4 2 2 1 5 _ (by decide) (by unfold Fl.NewOk; decide) (hT.mod m0 fun h => h))
  clear hl hT m0
  by_cases hp0 : n0 < 1
  · go_enter Tryd.func3, Tryd.ntmps3
    go_upto_region 1 with fail
    generalize w.alloc (.cells #[.int .i64 y, .int .i64 z] 23) = w0 at *
    obtain ⟨XB, hXB⟩ : ∃ b, b = w.heap.size := ⟨_, rfl⟩
    rw [← hXB] at X0 ⊢
    clear hXB
    go_wp2_with fail
    refine HC0.out.mono ?_; rintro e w1 ⟨sx, bx, Mx, gx, tx, tMx, rfl, -, m1, -⟩
    have M1 := Lib.hid (M0.out.trans m1)
    have X1 := Lib.hid (X0.out.mod m1 (fun h => h))
    have c0 := X1.out.cell 0; have c1 := X1.out.cell 1
    clear m1 M0 X0 HC0
    go_wp2_with fail
    go_ret
    exact ⟨rfl, M1.out⟩
  by_cases hp1 : 100 < n0
  · go_enter Tryd.func3, Tryd.ntmps3
    go_upto_region 1 with fail
    generalize w.alloc (.cells #[.int .i64 y, .int .i64 z] 23) = w0 at *
    obtain ⟨XB, hXB⟩ : ∃ b, b = w.heap.size := ⟨_, rfl⟩
    rw [← hXB] at X0 ⊢
    clear hXB
    go_wp2_with fail
    refine HC0.out.mono ?_; rintro e w1 ⟨sx, bx, Mx, gx, tx, tMx, rfl, -, m1, -⟩
    have M1 := Lib.hid (M0.out.trans m1)
    have X1 := Lib.hid (X0.out.mod m1 (fun h => h))
    have c0 := X1.out.cell 0; have c1 := X1.out.cell 1
    clear m1 M0 X0 HC0
    go_wp2_with fail
    go_ret
    exact ⟨rfl, M1.out⟩
  by_cases hp2 : 20 < len1
  · have hp2' : (20 : Int) < len1 := by omega
    go_enter Tryd.func3, Tryd.ntmps3
    go_upto_region 1 with fail
    generalize w.alloc (.cells #[.int .i64 y, .int .i64 z] 23) = w0 at *
    obtain ⟨XB, hXB⟩ : ∃ b, b = w.heap.size := ⟨_, rfl⟩
    rw [← hXB] at X0 ⊢
    clear hXB
    go_wp2_with fail
    refine HC0.out.mono ?_; rintro e w1 ⟨sx, bx, Mx, gx, tx, tMx, rfl, -, m1, -⟩
    have M1 := Lib.hid (M0.out.trans m1)
    have X1 := Lib.hid (X0.out.mod m1 (fun h => h))
    have c0 := X1.out.cell 0; have c1 := X1.out.cell 1
    clear m1 M0 X0 HC0
    go_wp2_with fail
    go_ret
    exact ⟨rfl, M1.out⟩
  have hp2' : ¬ (20 : Int) < len1 := by omega
  by_cases hp3 : y < 1
  · go_enter Tryd.func3, Tryd.ntmps3
    go_upto_region 1 with fail
    generalize w.alloc (.cells #[.int .i64 y, .int .i64 z] 23) = w0 at *
    obtain ⟨XB, hXB⟩ : ∃ b, b = w.heap.size := ⟨_, rfl⟩
    rw [← hXB] at X0 ⊢
    clear hXB
    go_wp2_with fail
    refine HC0.out.mono ?_; rintro e w1 ⟨sx, bx, Mx, gx, tx, tMx, rfl, -, m1, -⟩
    have M1 := Lib.hid (M0.out.trans m1)
    have X1 := Lib.hid (X0.out.mod m1 (fun h => h))
    have c0 := X1.out.cell 0; have c1 := X1.out.cell 1
    clear m1 M0 X0 HC0
    go_wp2_with fail
    go_ret
    exact ⟨rfl, M1.out⟩
  by_cases hp4 : 64 < y
  · go_enter Tryd.func3, Tryd.ntmps3
    go_upto_region 1 with fail
    generalize w.alloc (.cells #[.int .i64 y, .int .i64 z] 23) = w0 at *
    obtain ⟨XB, hXB⟩ : ∃ b, b = w.heap.size := ⟨_, rfl⟩
    rw [← hXB] at X0 ⊢
    clear hXB
    go_wp2_with fail
    refine HC0.out.mono ?_; rintro e w1 ⟨sx, bx, Mx, gx, tx, tMx, rfl, -, m1, -⟩
    have M1 := Lib.hid (M0.out.trans m1)
    have X1 := Lib.hid (X0.out.mod m1 (fun h => h))
    have c0 := X1.out.cell 0; have c1 := X1.out.cell 1
    clear m1 M0 X0 HC0
    go_wp2_with fail
    go_ret
    exact ⟨rfl, M1.out⟩
  by_cases hp5 : z < 1
  · go_enter Tryd.func3, Tryd.ntmps3
    go_upto_region 1 with fail
    generalize w.alloc (.cells #[.int .i64 y, .int .i64 z] 23) = w0 at *
    obtain ⟨XB, hXB⟩ : ∃ b, b = w.heap.size := ⟨_, rfl⟩
    rw [← hXB] at X0 ⊢
    clear hXB
    go_wp2_with fail
    refine HC0.out.mono ?_; rintro e w1 ⟨sx, bx, Mx, gx, tx, tMx, rfl, -, m1, -⟩
    have M1 := Lib.hid (M0.out.trans m1)
    have X1 := Lib.hid (X0.out.mod m1 (fun h => h))
    have c0 := X1.out.cell 0; have c1 := X1.out.cell 1
    clear m1 M0 X0 HC0
    go_wp2_with fail
    go_ret
    exact ⟨rfl, M1.out⟩
  by_cases hp6 : y < z
  · go_enter Tryd.func3, Tryd.ntmps3
    go_upto_region 1 with fail
    generalize w.alloc (.cells #[.int .i64 y, .int .i64 z] 23) = w0 at *
    obtain ⟨XB, hXB⟩ : ∃ b, b = w.heap.size := ⟨_, rfl⟩
    rw [← hXB] at X0 ⊢
    clear hXB
    go_wp2_with fail
    refine HC0.out.mono ?_; rintro e w1 ⟨sx, bx, Mx, gx, tx, tMx, rfl, -, m1, -⟩
    have M1 := Lib.hid (M0.out.trans m1)
    have X1 := Lib.hid (X0.out.mod m1 (fun h => h))
    have c0 := X1.out.cell 0; have c1 := X1.out.cell 1
    clear m1 M0 X0 HC0
    go_wp2_with fail
    go_ret
    exact ⟨rfl, M1.out⟩
  obtain ⟨n, rfl⟩ : ∃ n : Nat, n0 = (n : Int) := ⟨n0.toNat, by omega⟩
  have HN : Hid (1 ≤ n ∧ n ≤ 100) := by show _ ∧ _; omega
  have HLN : Hid (len1 ≤ 20) := by show _ ≤ _; omega
  have HYZ : Hid (1 ≤ y ∧ y ≤ 64 ∧ 1 ≤ z ∧ z ≤ y) := by show _ ∧ _; omega
  go_enter Tryd.func3, Tryd.ntmps3
  go_upto_region 1 with fail
  generalize w.alloc (.cells #[.int .i64 y, .int .i64 z] 23) = w0 at *
  obtain ⟨XB, hXB⟩ : ∃ b, b = w.heap.size := ⟨_, rfl⟩
  rw [← hXB] at X0 ⊢
  clear hXB
  go_wp2_with fail
  refine HC0.out.mono ?_; rintro e w1 ⟨sx, bx, Mx, gx, tx, tMx, rfl, -, m1, -⟩
  have M1 := Lib.hid (M0.out.trans m1)
  have X1 := Lib.hid (X0.out.mod m1 (fun h => h))
  have c0 := X1.out.cell 0; have c1 := X1.out.cell 1
  clear m1 M0 X0 HC0
  have HCN := Lib.hid (connNew n 30 y z 5 w1 (by have := HN.out; unfold BoardOk; omega) (by have := HYZ.out; unfold Fl.NewOk; omega) (HT.out.mod M1.out fun h => h))
  go_wp2_with fail
  refine HCN.out.mono ?_; rintro e w2 ⟨s, b, M, g, t, tM, rfl, h2, m2, l2⟩
  have H2 := Lib.hid h2
  have M2 := Lib.hid (M1.out.trans m2)
  have L2 : Hid (∀ i, SWb s b M g t tM [] i → w.heap.size ≤ i) := fun i hi => Nat.le_trans M1.out.size (l2 i hi)
  clear h2 m2 l2 HCN M1 X1 c0 c1
  have HB3 := Lib.hid (bitsNew n w2 (by have := HN.out; omega))
  go_wp2_with fail
  refine HB3.out.mono ?_; rintro e w3 ⟨rfl, b3, m3⟩
  obtain ⟨h, hh⟩ : ∃ h, h = w2.heap.size + 1 := ⟨_, rfl⟩
  obtain ⟨hg, hhg⟩ : ∃ h, h = w2.heap.size := ⟨_, rfl⟩
  rw [← hh, ← hhg] at b3
  rw [← hh]
  have X3 := Lib.hid b3
  have H3 := Lib.hid (H2.out.new m3)
  have M3 := Lib.hid (M2.out.trans m3)
  have L3 : Hid (∀ i, SWb s b M g t tM [] i → w.heap.size ≤ i ∧ i < h ∧ i < hg) := fun i hi => by have := H2.out.lt hi; have := L2.out i hi; omega
  have L3h : Hid (w.heap.size ≤ h ∧ w.heap.size ≤ hg) := by have := M2.out.size; show _ ∧ _; omega
  clear b3 m3 hh hhg HB3 H2 M2 L2
  have HB4 := Lib.hid (bitsNew n w3 (by have := HN.out; omega))
  go_wp2_with fail
  refine HB4.out.mono ?_; rintro e w4 ⟨rfl, b4, m4⟩
  obtain ⟨a, ha⟩ : ∃ h, h = w3.heap.size + 1 := ⟨_, rfl⟩
  obtain ⟨ag, hag⟩ : ∃ h, h = w3.heap.size := ⟨_, rfl⟩
  rw [← ha, ← hag] at b4
  rw [← ha]
  have HI4 : Hid (TsI w.heap.size w4 s b M g t tM n y z [] [] [] h hg (fun _ => false) a ag (fun _ => false) (.slice none 0 0) 0 []) := by
    have e1 := X3.out.lt
    have e2 := M3.out.size
    have e3 := L3h.out
    refine ⟨H3.out.new m4, rfl, X3.out.mod m4 (fun h => h) (fun h => h), b4, World.ownsRow_nil _ _ _ _, fun i hi => ?_, ⟨by omega, by simp [Value.ownBlock], by simp [Value.ownBlock], by simp [Value.ownBlock], by simp [Value.ownBlock]⟩, by omega, HT.out.mod (M3.out.trans m4) (fun h => h), HG.out⟩
    have e4 := L3.out i hi
    exact ⟨e4.1, by omega, by omega, by omega, by omega, by simp [Value.ownBlock]⟩
  have M4 := Lib.hid (M3.out.trans m4)
  clear b4 m4 ha hag HB4 H3 M3 L3 L3h X3 hp0 hp1 hp2 hp2' hp3 hp4 hp5 hp6
  go_wp2_with fail
  go_loopw [13, 14] (fun v' i' wr => ∃ (i : Nat) (v : Value) (ks : List (Int × Ow)) (L : LB) (A : Nat → Bool), i' = .int .i64 i ∧ v = v' ∧ i ≤ len1 ∧ Hid (TsI w.heap.size wr s b M g t tM n y z ks L [] h hg (fun _ => false) a ag A v i (idsL i)) ∧ Hid (PeP i L A) ∧ Hid (Mod (fun _ => False) w wr)) (fun _ i' _ => len1 - (intOf i').toNat)
  case atStart => exact ⟨0, _, [], [], _, rfl, rfl, Nat.zero_le _, HI4, PeP.zero, M4⟩
  case round =>
    obtain ⟨i, v, ks, L, A, rfl, rfl, hi, hI, hP, hm⟩ := hrel
    obtain ⟨wa, hwa⟩ : ∃ wa : World, wa = wr := ⟨_, rfl⟩
    rw [← hwa] at hI hm ⊢
    clear hwa HI4 M4
    by_cases hlt : (i : Int) < len1
    · have hlt2 : i < len1 := by omega
      obtain ⟨⟨ta, tlen, tcap, bs⟩, htb⟩ : ∃ t, l[i]? = some t := ⟨_, List.getElem?_eq_getElem (by rw [HL.out.1]; exact hlt2)⟩
      obtain ⟨⟨X, rfl, hc⟩, hs, hb⟩ := HL.out.2.2 i _ htb
      dsimp only at hc hs hb
      have HC := Lib.hid hc
      have HS := Lib.hid hs
      have HB := Lib.hid hb
      have HTL : Hid (bs.length = tlen) := by have := hs.len; show _ = _; simpa using this
      obtain ⟨f, hf⟩ : ∃ f, f = F13 n bs := ⟨_, rfl⟩
      have HF := Lib.hid hf
      have HIL : Hid (i < len1) := hlt2
      clear hf hc hs hb htb
      have HB5 := Lib.hid (bitsNew n wa (by have := HN.out; omega))
      go_wp2_with fail
      refine HB5.out.mono ?_; rintro e w5 ⟨rfl, b5, m5⟩
      obtain ⟨s1, hs1⟩ : ∃ h, h = wa.heap.size + 1 := ⟨_, rfl⟩
      obtain ⟨g1, hg1⟩ : ∃ h, h = wa.heap.size := ⟨_, rfl⟩
      rw [← hs1, ← hg1] at b5
      rw [← hs1]
      have X5 := Lib.hid b5
      have HI5 := Lib.hid (hI.out.new m5)
      have M5 := Lib.hid (hm.out.trans m5)
      have HLO : Hid (∀ j, TsB s b M g t tM ks h hg a ag v j → j < s1 ∧ j < g1) := fun j hj => by have := (hI.out.lt hj).2; omega
      have HSG : Hid (w.heap.size ≤ s1 ∧ w.heap.size ≤ g1) := by have := hm.out.size; show _ ∧ _; omega
      clear b5 m5 hs1 hg1 HB5 hI hm
      have hnn := HN.out
      go_wp2_with fail
      go_loopw [17] (fun k' wr => ∃ k : Nat, k' = .int .i64 k ∧ k ≤ n ∧ Hid (BSet wr s1 g1 n (ofP f k)) ∧ Hid (TsI w.heap.size wr s b M g t tM n y z ks L [] h hg (fun _ => false) a ag (orA A f k) v i (idsL i)) ∧ Hid (Mod (fun _ => False) w wr)) (fun k' _ => n - (intOf k').toNat)
      case atStart => exact ⟨0, rfl, Nat.zero_le _, by rw [ofP_zero]; exact X5, by rw [orA_zero]; exact HI5, M5⟩
      case round =>
        obtain ⟨k, rfl, hk, hB, hI, hm⟩ := hrel
        have hfin : (n ≤ k ∨ tlen ≤ k / 8) → ∀ x, k ≤ x → f x = false := by
          intro h x hx
          rw [HF.out]
          unfold F13
          rw [HTL.out]
          rcases h with h | h
          · simp; omega
          · have : ¬ x / 8 < tlen := by omega
            simp [this]
        have HFIN := Lib.hid hfin
        have cc := hm.out.cell HC.out (fun h => h)
        clear hfin X5 HI5 M5
        by_cases hltk : (k : Int) < n
        · by_cases hl8 : k / 8 < tlen
          · have hl8' : (k : Int) / 8 < tlen := by omega
            have hsl := (HS.out.mod hm.out (fun _ _ _ _ h => h)).byt (k / 8) hl8
            obtain ⟨x, c, hx, hc⟩ := hsl
            cases hx
            have hx256 : bs.getD (k / 8) 0 < 256 := by
              rw [List.getD_eq_getElem?_getD, List.getElem?_eq_getElem (by rw [HTL.out]; exact hl8)]
              exact HB.out _ (List.getElem_mem _)
            have hfk : f k = (bs.getD (k / 8) 0).testBit (k % 8) := by
              rw [HF.out]
              unfold F13
              rw [HTL.out]
              simp [hl8]
              omega
            obtain ⟨zb, hz⟩ : ∃ z, z = bs.getD (k / 8) 0 := ⟨_, rfl⟩
            rw [← hz] at hc hx256 hfk
            obtain ⟨q, hq⟩ : ∃ q, q = k / 8 := ⟨_, rfl⟩
            obtain ⟨r8, hr8⟩ : ∃ r, r = k % 8 := ⟨_, rfl⟩
            have hb := and_bit8 hx256 (r := r8) (by omega)
            rw [← hr8] at hfk
            rw [← hfk] at hb
            have hb2 : (bits .and .u8 ((zb : Int) / 2 ^ r8) 1 == 1) = f k := by rw [← hb]; rfl
            rw [← hq] at hc hl8
            have hqq : (k : Int) / 8 = q := by omega
            have htq : (k : Int).tdiv 8 = q := by rw [Int.tdiv_eq_ediv_of_nonneg (by omega)]; omega
            have htm : (k : Int).tmod 8 = r8 := by rw [Int.tmod_eq_emod_of_nonneg (by omega)]; omega
            have hem : (k : Int) % 8 = r8 := by omega
            have hwq : IntKind.i64.wrap (q : Int) = q := by unfold IntKind.wrap; simp [IntKind.bits, IntKind.signed]; omega
            have hwr : IntKind.i64.wrap (r8 : Int) = r8 := by unfold IntKind.wrap; simp [IntKind.bits, IntKind.signed]; omega
            have hwu : IntKind.u64.wrap (r8 : Int) = r8 := by unfold IntKind.wrap; simp [IntKind.bits, IntKind.signed]; omega
            have hql : (q : Int) < tlen := by omega
            have hsh : ∀ yk, Op.shift .shr .u8 (zb : Int) yk (r8 : Int) = pure (.int .u8 ((zb : Int) / 2 ^ r8)) := by
              intro yk
              have := shift_shr .u8 yk (zb : Int) (r8 : Int) (by omega) (by show (r8 : Int) ≤ 8; omega)
              rw [Int.toNat_natCast] at this
              exact this
            have HP := Lib.hid (bitsPut s1 g1 n (ofP f k) k (f k) wr hB.out (by omega))
            rw [ofP_step] at HP
            have HFK := Lib.hid hfk
            have hkn : k < n := by omega
            clear hz hfk hx256 hq hr8 hl8'
            obtain ⟨one, hone⟩ : ∃ o, o = f k := ⟨_, rfl⟩
            have HFK2 := Lib.hid hone
            rw [← hone] at HP hb hb2
            clear hone
            go_wp2_with fail
            refine HP.out.mono ?_; rintro e w6 ⟨rfl, h6, m6⟩
            have B6 := Lib.hid h6
            have HI6 := Lib.hid (hI.out.mod m6 (fun j hj e => by have := HLO.out j hj; omega) (by have := HG.out; have := HSG.out; omega))
            have M6 := Lib.hid (hm.out.new m6 (by intro j hj; have := HSG.out; omega))
            have HAG : Hid (ag ≠ s1 ∧ ag ≠ g1) := by have := HLO.out ag (.inr (.inr (.inr (.inr (.inl rfl))))); show _ ∧ _; omega
            clear h6 m6 hI hm hB HP HFK HFIN cc hc hsh hb hb2 hqq htq htm hem hwq hwr hwu hql hl8
            cases one with
            | true =>
              have HQ := Lib.hid (bitsPut a ag n (orA A f k) k true w6 HI6.out.xa hkn)
              rw [orA_yes HFK2.out.symm] at HQ
              go_wp2_with fail
              refine HQ.out.mono ?_; rintro e w7 ⟨rfl, h7, m7⟩
              have B7 := Lib.hid (B6.out.mod m7 (fun e => HAG.out.1 e.symm) (fun e => HAG.out.2 e.symm))
              have HI7 := Lib.hid (HI6.out.aput h7 m7)
              have M7 := Lib.hid (M6.out.new m7 (by intro j hj; have := HI6.out.ao.1; omega))
              clear h7 m7 HQ HI6 M6 B6
              go_wp2_with fail
              exact ⟨⟨k + 1, by go_num, by omega, B7, HI7, M7⟩, by simp [intOf]; omega⟩
            | false =>
              rw [orA_no HFK2.out.symm] at HI6
              go_wp2_with fail
              exact ⟨⟨k + 1, by go_num, by omega, B6, HI6, M6⟩, by simp [intOf]; omega⟩
          · have htq : (k : Int).tdiv 8 = (k : Int) / 8 := Int.tdiv_eq_ediv_of_nonneg (by omega)
            have hl8' : decide ((k : Int) / 8 < tlen) = false := by simp; omega
            have hfa := HFIN.out (.inr (by omega))
            have hwq : IntKind.i64.wrap ((k : Int) / 8) = (k : Int) / 8 := by unfold IntKind.wrap; simp [IntKind.bits, IntKind.signed]; omega
            have hB2 := hB.out
            rw [ofP_all hfa] at hB2
            have hI2 := hI.out
            rw [orA_all hfa] at hI2
            have B2 := Lib.hid hB2
            have HI2 := Lib.hid hI2
            have M6 := Lib.hid hm.out
            have hi20 : i < 20 := by have := HLN.out; have := HIL.out; omega
            have hkl : ks.length ≤ 64 := by have h1 := congrArg List.length hI2.e; have h2 := hP.out.len; rw [mapV_len] at h1; omega
            have hbt := connBits ((i : Int) + 1) (some s1) (some (n, f)) s b M g t tM n 30 y z 5 ks L [] wr hI2.sw hI2.e hI2.tab hkl (by omega) (Fl.i64_of (by omega) (by omega)) (lo := min s1 g1) (.inr ⟨s1, g1, n, f, rfl, rfl, hB2, Nat.min_le_left _ _, Nat.min_le_right _ _⟩) (fun j hj => by have := HLO.out j (.inl (.inr (.inl hj))); omega)
            rw [hP.out.set hi20 f] at hbt
            have HBT := Lib.hid hbt
            clear hB2 hI2 hfa hB hI hm hbt hkl HFIN
            go_wp2_with fail
            refine HBT.out.mono ?_; rintro e w8 ⟨rfl, h8⟩
            obtain ⟨⟨k8, i8⟩, m8⟩ := HI2.out.step h8
            have HI8 := Lib.hid i8
            have M8 := Lib.hid (M6.out.new m8 fun i e => e)
            clear h8 i8 m8 HI2 M6 B2 HBT cc
            go_wp2_with (at_builtin; refine app1 (base := w.heap.size) rfl (.tmp 154) (.tmp 157) 31 3 1 rfl Tryd.underlying31 infoInt rfl (by decide) _ _ _ _ 1 [.int .i64 ((i : Int) + 1)] (by have := M8.out.size; simp; omega) (HI8.out.ids.alloc _) rfl rfl (sl_new w8 #[.int .i64 ((i : Int) + 1)] 3) (by simp [Value.oneCell']) (by decide) (by omega) ?_; intro v9 w9 q1 q2 q3; have G1 := Lib.hid q1; have G2 := Lib.hid q2; have G3 := Lib.hid q3; clear q1 q2 q3)
            have ma := (Mod.refl (fun _ => False) w8).alloc (.cells #[.int .i64 ((i : Int) + 1)] 3)
            have HI9 := Lib.hid ((HI8.out.new ma).app (js := idsL (i + 1)) (by have := G1.out; rw [idsL_snoc]; unfold intL; rw [List.map_append]; exact this) G2.out (Nat.le_refl _) G3.out)
            have M9 := Lib.hid ((M8.out.trans ma).new G2.out fun j e => (HI8.out.ids.lt j e).1)
            exact ⟨⟨i + 1, v9, k8, _, _, by go_num, rfl, by have := HIL.out; omega, HI9, hP.out.step f, M9⟩, by have := HIL.out; simp [intOf]; omega⟩
        · have hfa := HFIN.out (.inl (by omega))
          have hB2 := hB.out
          rw [ofP_all hfa] at hB2
          have hI2 := hI.out
          rw [orA_all hfa] at hI2
          have B2 := Lib.hid hB2
          have HI2 := Lib.hid hI2
          have M6 := Lib.hid hm.out
          have hi20 : i < 20 := by have := HLN.out; have := HIL.out; omega
          have hkl : ks.length ≤ 64 := by have h1 := congrArg List.length hI2.e; have h2 := hP.out.len; rw [mapV_len] at h1; omega
          have hbt := connBits ((i : Int) + 1) (some s1) (some (n, f)) s b M g t tM n 30 y z 5 ks L [] wr hI2.sw hI2.e hI2.tab hkl (by omega) (Fl.i64_of (by omega) (by omega)) (lo := min s1 g1) (.inr ⟨s1, g1, n, f, rfl, rfl, hB2, Nat.min_le_left _ _, Nat.min_le_right _ _⟩) (fun j hj => by have := HLO.out j (.inl (.inr (.inl hj))); omega)
          rw [hP.out.set hi20 f] at hbt
          have HBT := Lib.hid hbt
          clear hB2 hI2 hfa hB hI hm hbt hkl HFIN
          go_wp2_with fail
          refine HBT.out.mono ?_; rintro e w8 ⟨rfl, h8⟩
          obtain ⟨⟨k8, i8⟩, m8⟩ := HI2.out.step h8
          have HI8 := Lib.hid i8
          have M8 := Lib.hid (M6.out.new m8 fun i e => e)
          clear h8 i8 m8 HI2 M6 B2 HBT cc
          go_wp2_with (at_builtin; refine app1 (base := w.heap.size) rfl (.tmp 154) (.tmp 157) 31 3 1 rfl Tryd.underlying31 infoInt rfl (by decide) _ _ _ _ 1 [.int .i64 ((i : Int) + 1)] (by have := M8.out.size; simp; omega) (HI8.out.ids.alloc _) rfl rfl (sl_new w8 #[.int .i64 ((i : Int) + 1)] 3) (by simp [Value.oneCell']) (by decide) (by omega) ?_; intro v9 w9 q1 q2 q3; have G1 := Lib.hid q1; have G2 := Lib.hid q2; have G3 := Lib.hid q3; clear q1 q2 q3)
          have ma := (Mod.refl (fun _ => False) w8).alloc (.cells #[.int .i64 ((i : Int) + 1)] 3)
          have HI9 := Lib.hid ((HI8.out.new ma).app (js := idsL (i + 1)) (by have := G1.out; rw [idsL_snoc]; unfold intL; rw [List.map_append]; exact this) G2.out (Nat.le_refl _) G3.out)
          have M9 := Lib.hid ((M8.out.trans ma).new G2.out fun j e => (HI8.out.ids.lt j e).1)
          exact ⟨⟨i + 1, v9, k8, _, _, by go_num, rfl, by have := HIL.out; omega, HI9, hP.out.step f, M9⟩, by have := HIL.out; simp [intOf]; omega⟩
    · have HI20 : Hid (i ≤ 20) := by have := HLN.out; show i ≤ 20; omega
      have HI := Lib.hid hI.out
      have HP := Lib.hid hP.out
      have HM := Lib.hid hm.out
      clear hI hP hm hi
      go_wp2_with fail
      refine (drawNew _ _).mono ?_; rintro e w5 ⟨rfl, rfl⟩
      clear hlt
      have hP := HP
      have ma := (Mod.refl (fun _ => False) wa).alloc (.cells #[.int .u64 (n : Int)] 62)
      have S5 := Lib.hid (Blk.new wa #[.int .u64 (n : Int)] 62)
      have HI5 := Lib.hid (HI.out.new ma)
      have M5 := Lib.hid (HM.out.trans ma)
      have HSD : Hid (∀ j, TsB s b M g t tM ks h hg a ag v j → j < wa.heap.size) := fun j hj => (HI.out.lt hj).2
      have HSW : Hid (w.heap.size ≤ wa.heap.size) := HM.out.size
      clear ma HI HM
      generalize wa.alloc (.cells #[.int .u64 (n : Int)] 62) = w5 at *
      obtain ⟨sd, hsd⟩ : ∃ x, x = wa.heap.size := ⟨_, rfl⟩
      rw [← hsd] at S5 HSD HSW ⊢
      have hn100 := HN.out
      clear hsd wa
      go_wp2_with fail
      go_loopw [20] (fun r' wr => ∃ (r : Nat) (F : Nat → Bool) (sv : Int), r' = .int .i64 r ∧ r ≤ n ∧ Hid (TsI w.heap.size wr s b M g t tM n y z ks L [] h hg F a ag A v i (idsL i)) ∧ Hid (∀ k, F k = true → A k = true) ∧ Hid (lackN A F n ≤ n - r) ∧ Hid (Blk wr sd #[.int .u64 sv] 62) ∧ Hid (Mod (fun _ => False) w wr)) (fun r' _ => n - (intOf r').toNat)
      case atStart => exact ⟨0, _, _, rfl, Nat.zero_le _, HI5, (fun k hk => by cases hk), cnt_le _ _, S5, M5⟩
      case round =>
        obtain ⟨r, F, sv, rfl, hr, hI, hF, hlk, hS, hm⟩ := hrel
        obtain ⟨wb, hwb⟩ : ∃ wb : World, wb = wr := ⟨_, rfl⟩
        rw [← hwb] at hI hS hm ⊢
        clear hwb HI5 S5 M5
        by_cases hrn : (r : Int) < n
        · have hrn2 : r < n := by omega
          have HRN : Hid (r < n ∧ n ≤ 100) := by show _ ∧ _; omega
          have HSN := Lib.hid (srcNext sv sd wb hS.out)
          clear hr
          go_wp2_with fail
          refine HSN.out.mono ?_; rintro e w6 ⟨seed, sv2, rfl, h6, m6⟩
          have HI6 := Lib.hid (hI.out.mod m6 (fun j hj e => by have := HSD.out j hj; omega) (by have := HG.out; have := HSW.out; omega))
          have S6 := Lib.hid h6
          have M6 := Lib.hid (hm.out.new m6 (fun j e => by rw [e]; exact HSW.out))
          clear h6 m6 HSN hI hS hm
          have hq : (0 : Int) ≤ (r : Int) ∧ (r : Int) ≤ 1099511627776 := by omega
          have hnx := connNext r seed (some h) (some (n, F)) v i (idsL i) s b M g t tM n 30 y z 5 ks L [] w6 HI6.out.sw HI6.out.tab (lo := 0) (.inr ⟨h, hg, n, F, rfl, rfl, HI6.out.xh, Nat.zero_le _, Nat.zero_le _⟩) HI6.out.ids.sl (by have := HI20.out; omega) (fun x m c e _ e2 => (HI6.out.ap tM (.inr (.inr (.inr rfl)))).2.2.2.2.2 (by rw [e]; show some x.block = some tM; rw [e2])) HI6.out.e (Fl.Okk.nil y z (by have := HYZ.out; omega) (by have := HYZ.out; omega)) (hP.out.okB HI20.out) (by have := HYZ.out; omega) (by decide) (fun q hq => by simp at hq) (by omega) (fun j hj => by have h1 := (HI6.out.ap j hj).1; have h2 := HG.out; omega)
          rw [nextA_some hq] at hnx
          dsimp only at hnx
          have hrow := RowsP.next (n := n) (mo := y) (ea := z) (L := L) (f := F) (now := r) (seed := seed) (may := idsL i) (keysL L)
          have hask := AskedP.all (n := n) (mo := y) (ea := z) (L := L) (f := F) (now := r) (seed := seed) (may := idsL i) (T := []) List.Pairwise.nil (keysL L)
          have hless : ∀ F', MoreP F (keysL (nextS n y z L F r seed (idsL i) (keysL L) ([], [])).2) F' → (∀ k, F' k = true → A k = true) ∧ lackN A F' n ≤ lackN A F n - 1 := fun F' hm => round_less (by omega) hq (by have := HYZ.out; omega) (by have := HYZ.out; omega) (hP.out.rngL HI20.out) hP.out.rise hP.out.may hP.out.all hF.out hm
          have hinv := nextS_ind (P := InvS n y z) (keysL L) (fun p _ _ st st' h ha => h.step ha) ([], []) ⟨Fl.Okk.nil y z (by have := HYZ.out; omega) (by have := HYZ.out; omega), (fun q hq => by simp at hq), Nat.zero_le _⟩ (L := L) (f := F) (now := r) (seed := seed) (may := idsL i)
          obtain ⟨R, hR⟩ : ∃ x, x = nextS n y z L F r seed (idsL i) (keysL L) ([], []) := ⟨_, rfl⟩
          rw [← hR] at hnx hrow hask hless hinv
          obtain ⟨T1, OUT⟩ := R
          dsimp only at hnx hrow hask hless
          have HOL : Hid (OUT.length ≤ 64) := by
            have h1 := hinv.ll
            have h2 := hinv.ok.len
            have h3 := HYZ.out
            dsimp only at h1 h2
            show _ ≤ _
            omega
          have hnd : (keysL OUT).Nodup := hask.nodup
          have HROW := Lib.hid hrow
          have HASK := Lib.hid hask.each
          have HLESS := Lib.hid hless
          have HND := Lib.hid hnd
          have HNX := Lib.hid hnx
          clear hR hnx hrow hask hless hnd hq hF hinv
          go_wp2_with fail
          refine HNX.out.mono ?_; rintro e w7 ⟨⟨v7, rfl, o7⟩, ht7, m7⟩
          have htm := HI6.out.ap tM (.inr (.inr (.inr rfl)))
          have HI7 := Lib.hid (HI6.out.tmod ht7 m7)
          have S7 := Lib.hid (S6.out.mod m7 (fun e => by have := HSD.out tM (.inl (.inr (.inr (.inr rfl)))); omega))
          have M7 := Lib.hid (M6.out.new m7 (fun j e => by rw [e]; exact htm.1))
          obtain ⟨a7, cap7, rfl, -, hel7, hbk7⟩ := o7.els
          have HE7 := Lib.hid hel7
          have HB7 : Hid (∀ X : Addr, a7 = some X → X.block ≠ tM ∧ X.block ≠ hg ∧ w.heap.size ≤ X.block) := fun X e => by
            have h1 := (hbk7 X e).1
            have h2 := (HI6.out.lt (i := tM) (.inl (.inr (.inr (.inr rfl))))).2
            have h3 := (HI6.out.lt (i := hg) (.inr (.inr (.inl rfl)))).2
            have h4 := M6.out.size
            omega
          clear ht7 m7 htm o7 hel7 hbk7 HI6 S6 M6 HNX
          go_wp2_with fail
          go_loopw [23] (fun j' wr => ∃ (j : Nat) (T2 : LT) (F2 : Nat → Bool), j' = .int .i64 j ∧ j ≤ OUT.length ∧ Hid (TsI w.heap.size wr s b M g t tM n y z ks L T2 h hg F2 a ag A v i (idsL i)) ∧ Hid (RowsP T2 (OUT.drop j)) ∧ Hid (MoreP F (keysL (OUT.take j)) F2) ∧ Hid (Mod (fun i => i = tM ∨ i = hg) w7 wr)) (fun j' _ => OUT.length - (intOf j').toNat)
          case atStart => exact ⟨0, T1, F, rfl, Nat.zero_le _, HI7, HROW.out, MoreP.nil F, Mod.refl _ _⟩
          case round =>
            obtain ⟨j, T2, F2, rfl, hj, hI, hR, hM, hm⟩ := hrel
            obtain ⟨wo, hwo⟩ : ∃ wo : World, wo = wr := ⟨_, rfl⟩
            rw [← hwo] at hI hm ⊢
            clear hwo
            by_cases hjo : (j : Int) < OUT.length
            · obtain ⟨⟨x9, r9⟩, hkr⟩ : ∃ q, OUT[j]? = some q := ⟨_, List.getElem?_eq_getElem (by omega)⟩
              obtain ⟨X7, rfl, p0, p1, -⟩ := Fl.rqEl HE7.out (Nat.le_refl _) hkr
              have hXz : ∀ q, ¬ ((X7.add q).block = tM ∨ (X7.add q).block = hg) := fun q => by rw [Addr.add_block]; have := HB7.out X7 rfl; omega
              have p0 := hm.out.cell p0 (hXz _); have p1 := hm.out.cell p1 (hXz _)
              obtain ⟨x, hx1, hxn, -, hfx, -, -⟩ := HASK.out _ (List.mem_of_getElem? hkr)
              dsimp only at hx1
              subst hx1
              obtain ⟨hdrop, htake⟩ := row_at hkr
              have hnot := row_new hkr HND.out
              have hR2 := hR.out
              rw [hdrop] at hR2
              obtain ⟨hlk2, hdel⟩ := hR2.del
              obtain ⟨hov, hot⟩ := overA_row hlk2
              obtain ⟨pp, pt⟩ := r9
              dsimp only at hov hot p0
              have hF2 := hM.out.not hfx hnot
              have hsn := hM.out.snoc x
              rw [← htake] at hsn
              have HDEL := Lib.hid hdel
              have HSNO := Lib.hid hsn
              have ho := fun rn => connOver pp x s b M g t tM n 30 y z 5 ks T2 (wo.drewN rn) (hI.out.sw.drewN rn) (Fl.i64_of (by omega) (by omega))
              rw [hov, hot] at ho
              have HO := Lib.hid ho
              have HJ : Hid (j < OUT.length ∧ x < n ∧ F2 x = false) := ⟨by omega, hxn, hF2⟩
              have hjo2 := hjo
              clear hkr hXz hfx hdrop htake hnot hR2 hlk2 hdel hov hot hsn ho hj hF2
              go_wp2_with fail
              refine wp_region2 [] [] (by kernel_rfl) (by kernel_rfl) ?_
              repeat (first | (refine reg_anyT (by rfl) (fun K hK => ?_); go_simp; refine hK _ _ ?_; clear hK K) | (refine reg_read (by rfl) (fun K hK => ?_); go_simp; refine hK _ _ ?_; clear hK K))
              refine reg_eff (by rfl) (fun rn K hK => ?_); go_simp
              refine (HO.out rn).mono ?_; rintro e w' ⟨rfl, ht, m8⟩
              refine hK _ _ ?_; clear hK K
              repeat (first | (refine reg_anyT (by rfl) (fun K hK => ?_); go_simp; refine hK _ _ ?_; clear hK K) | (refine reg_read (by rfl) (fun K hK => ?_); go_simp; refine hK _ _ ?_; clear hK K))
              refine reg_nil (fun nd => ?_)
              have hmd := (Mod.refl (fun _ => False) w').drewN nd
              have HI8 := Lib.hid ((hI.out.tmod ht m8.undrew).new hmd)
              have HM8 := Lib.hid ((hm.out.trans (m8.undrew.mono fun i _ e => Or.inl e)).drewN nd)
              have HB7x := HB7.out X7 rfl
              have q1 := m8.undrew.cell p1 (fun e => HB7x.1 ((Addr.add_block _ _).symm.trans e))
              have q2 := hmd.cell q1 (fun h => h)
              clear p0 p1 q1 hm hI ht m8 hmd HO HB7x hR hM
              generalize World.drewN w' nd = w8 at *
              clear w'
              have hhas := bitsHas h hg n F2 x w8 HI8.out.xh
              rw [hasB_nat, HJ.out.2.2] at hhas
              have HHAS := Lib.hid hhas
              have HPUT := Lib.hid (bitsPut h hg n F2 x true w8 HI8.out.xh HJ.out.2.1)
              clear hhas
              go_wp2_with fail
              refine HHAS.out.mono ?_; rintro e w9 ⟨rfl, rfl⟩
              go_wp2_with fail
              refine HPUT.out.mono ?_; rintro e w9 ⟨rfl, h9, m9⟩
              have HI9 := Lib.hid (HI8.out.hput h9 m9)
              have HM9 := Lib.hid (HM8.out.trans (m9.mono fun i _ e => Or.inr e))
              clear h9 m9 HPUT HHAS HI8 HM8
              have hj2 := HJ.out.1
              have hj3 := HOL.out
              go_wp2_with fail
              exact ⟨⟨j + 1, _, _, by go_num, by omega, HI9, HDEL, HSNO, HM9⟩, by simp [intOf]; omega⟩
            · have hjl : j = OUT.length := by omega
              have hR2 := hR.out
              have hM2 := hM.out
              rw [hjl, List.drop_length] at hR2
              rw [hjl, List.take_length] at hM2
              have hT2 := hR2.nil hI.out.sw.tb.rising
              subst hT2
              obtain ⟨hF3, hlk3⟩ := HLESS.out F2 hM2
              have HF3 := Lib.hid hF3
              have HLK3 : Hid (lackN A F2 n ≤ n - (r + 1)) := by have := hlk.out; show _ ≤ _; omega
              have htm := HI7.out.ap tM (.inr (.inr (.inr rfl)))
              have S9 := Lib.hid (S7.out.mod hm.out (fun e => by
                have h1 := HSD.out tM (.inl (.inr (.inr (.inr rfl))))
                have h2 := HSD.out hg (.inr (.inr (.inl rfl)))
                omega))
              have HM9 := Lib.hid (M7.out.new hm.out (fun i e => by have := HI7.out.ao.1; omega))
              have HI9 := Lib.hid hI.out
              clear hjl hR2 hM2 hF3 hlk3 htm hI hR hM hm hlk HI7 S7 M7
              have hr2 := HRN.out
              go_wp2_with fail
              exact ⟨⟨r + 1, F2, sv2, by go_num, by omega, HI9, HF3, HLK3, S9, HM9⟩, by simp [intOf]; omega⟩
        · have hl0 : lackN A F n = 0 := by have := hlk.out; omega
          have hFA := lack_none hl0 hF.out (fun k hk => hI.out.xa.out k hk)
          subst hFA
          have HI9 := Lib.hid hI.out
          have HM9 := Lib.hid hm.out
          clear hl0 hI hF hlk hS hm
          go_wp2_with fail
          refine wp_region2 [(1, 4), (2, 3), (4, 4), (5, 3)] [] (by kernel_rfl) (by kernel_rfl) ?_
          repeat (first | (refine reg_anyT (by rfl) (fun K hK => ?_); go_simp; refine hK _ _ ?_; clear hK K) | (refine reg_read (by rfl) (fun K hK => ?_); go_simp; refine hK _ _ ?_; clear hK K))
          refine reg_new (by rfl) (fun rn K hK => ?_); go_simp
          refine (bitsBytes h hg n F _ (HI9.out.xh.drewN rn).toBRaw).mono ?_; rintro e v9 ⟨rfl, z1, z2, _⟩
          refine hK _ _ ⟨z2.ex, ?_⟩; clear hK K
          repeat (first | (refine reg_anyT (by rfl) (fun K hK => ?_); go_simp; refine hK _ _ ?_; clear hK K) | (refine reg_read (by rfl) (fun K hK => ?_); go_simp; refine hK _ _ ?_; clear hK K))
          have HI10 := Lib.hid (HI9.out.new z2.undrew)
          have M10 := Lib.hid (HM9.out.trans z2.undrew)
          refine reg_hold_v (by rfl) (by rfl) (.string (strOf (bytesOf F n))) (fun w' hw' => q_conv _ _ _ rfl (strB (z1.ex hw'))) ?_
          repeat (first | (refine reg_anyT (by rfl) (fun K hK => ?_); go_simp; refine hK _ _ ?_; clear hK K) | (refine reg_read (by rfl) (fun K hK => ?_); go_simp; refine hK _ _ ?_; clear hK K))
          clear z1 z2 HI9 HM9
          refine reg_new (by rfl) (fun rn K hK => ?_); go_simp
          refine (bitsBytes a ag n F _ (HI10.out.xa.drewN rn).toBRaw).mono ?_; rintro e v10 ⟨rfl, z1, z2, _⟩
          refine hK _ _ ⟨z2.ex, ?_⟩; clear hK K
          repeat (first | (refine reg_anyT (by rfl) (fun K hK => ?_); go_simp; refine hK _ _ ?_; clear hK K) | (refine reg_read (by rfl) (fun K hK => ?_); go_simp; refine hK _ _ ?_; clear hK K))
          have M11 := Lib.hid (M10.out.trans z2.undrew)
          refine reg_hold_v (by rfl) (by rfl) (.string (strOf (bytesOf F n))) (fun w' hw' => q_conv _ _ _ rfl (strB (z1.ex hw'))) ?_
          repeat (first | (refine reg_anyT (by rfl) (fun K hK => ?_); go_simp; refine hK _ _ ?_; clear hK K) | (refine reg_read (by rfl) (fun K hK => ?_); go_simp; refine hK _ _ ?_; clear hK K))
          clear z1 z2 HI10 M10
          refine reg_nil (fun nd => ?_)
          go_wp2_with fail
          go_ret
          exact ⟨by simp, M11.out.drewN _⟩
end Go.Proofs.YtfopglaagnbacaaDoor
