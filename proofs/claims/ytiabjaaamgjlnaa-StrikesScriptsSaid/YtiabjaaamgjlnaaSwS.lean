/- The walk of the statement StrikesScripts: the call returns true and turns nothing that was there; no condition. -/
import Derived.Test.YtiabjaaamgjlnaaSwO
namespace Go.Proofs.Ytiabjaaamgjlnaa
open Go Go.RowKit

theorem Mod.bel {w w' : World} (h : Mod (fun _ => False) w w') : Below w.heap.size w w' := h.below (Nat.le_refl _) (fun _ h => h.elim)

set_option maxRecDepth 100000 in
set_option maxHeartbeats 4000000 in
theorem strikesScripts_walk (z0 : X3) (a1 : Option Addr) (len1 cap1 : Nat) (l : List St) (w : World) (_ : True) (hl : IsSteps w a1 len1 l) :
    Calls Try.prog 7 #[x3V z0, .slice a1 len1 cap1] w fun e w' => e = .returned (.bool true) ∧ Below w.heap.size w w' := by
  refine Calls.mono (R := fun e w' => e = .returned (.bool true) ∧ Mod (fun _ => False) w w') ?_ (fun e w' ⟨h1, h2⟩ => ⟨h1, h2.bel⟩)
  obtain ⟨x, y, z⟩ := z0
  unfold x3V
  dsimp only
  have HL := Lib.hid hl
  have hll : (len1 : Int) ≤ 9223372036854775807 := hl.2.1
  clear hl
  have mx := (Mod.refl (fun _ => False) w).alloc (.cells #[.int .i64 x, .int .i64 y, .int .i64 z] 38)
  have X0 := Lib.hid (Blk.new w #[.int .i64 x, .int .i64 y, .int .i64 z] 38)
  have MX := Lib.hid mx
  obtain ⟨w0, hw0⟩ : ∃ w0, w0 = w.alloc (.cells #[.int .i64 x, .int .i64 y, .int .i64 z] 38) := ⟨_, rfl⟩
  rw [← hw0] at X0 MX
  have HW0 := Lib.hid hw0
  clear mx hw0
  by_cases hok : BookOk x y z
  · have HOK := Lib.hid hok
    have hok' := hok
    obtain ⟨g1, g2, g3, g4, g5, g6⟩ := hok'
    clear hok
    go_enter Try.func7, Try.ntmps7
    go_wp2_with fail
    rw [← HW0.out]
    refine (awake15 w0).mono ?_; rintro e w1 ⟨rfl, m1⟩
    have X1 := Lib.hid (X0.out.mod m1 (fun h => h))
    have M1 := Lib.hid (MX.out.trans m1)
    have c0 := X1.out.cell 0; have c1 := X1.out.cell 1; have c2 := X1.out.cell 2
    clear m1
    go_wp2_with fail
    refine (strNew x y z _ g1 g2 g3 g4 g5 g6).mono ?_; rintro e w2 ⟨rfl, t2, m2, s2⟩
    have T2 := Lib.hid t2
    have M2 := Lib.hid m2
    have X2 := Lib.hid (X1.out.mod m2 (fun h => h))
    have d0 := m2.cell c0 (fun h => h); have d1 := m2.cell c1 (fun h => h); have d2 := m2.cell c2 (fun h => h)
    clear t2 m2 c0 c1 c2
    go_wp2_with fail
    refine (refNew x y z _ HOK.out).mono ?_; rintro e w3 ⟨rfl, r3, m3, s3⟩
    have X3 := Lib.hid (X2.out.mod m3 (fun h => h))
    obtain ⟨b, hb⟩ : ∃ b, b = w1.heap.size + 1 := ⟨_, rfl⟩
    obtain ⟨M, hM⟩ : ∃ b, b = w1.heap.size := ⟨_, rfl⟩
    obtain ⟨b', hb'⟩ : ∃ b, b = w2.heap.size := ⟨_, rfl⟩
    have hz : w.heap.size < w1.heap.size := X1.out.lt
    have two : Two w3 b M b' (b' + 1) x y z 0 [] := by
      refine ⟨?_, ?_, by omega, OkB.nil _ _ (by omega)⟩
      · rw [hb, hM]; exact T2.out.new m3
      · rw [hb']; exact r3
    have TW := Lib.hid two
    have M3 := Lib.hid ((M1.out.trans M2.out).trans m3)
    have HN : Hid (w.heap.size < b ∧ w.heap.size < M ∧ w.heap.size < b') := by show _ ∧ _ ∧ _; omega
    rw [← hb, ← hb']
    clear two r3 m3 hb hM hb' hz T2 M2 M1 d0 d1 d2 s2 s3 X1 X2
    go_wp2_with fail
    go_loopw [10] (fun v wr => ∃ (k : Nat) (ks : List (Int × Rc)), v = .int .i64 k ∧ k ≤ len1 ∧ k ≤ 150 ∧ Hid (Two wr b M b' (b' + 1) x y z k ks) ∧ Mod (fun _ => False) w wr) (fun v _ => 150 - (intOf v).toNat)
    case atStart => exact ⟨0, [], rfl, Nat.zero_le _, Nat.zero_le _, TW, M3.out⟩
    case round =>
      obtain ⟨k, ks, rfl, hk, hk150, hB, hm⟩ := hrel
      by_cases hlt : k < len1 ∧ k < 150
      · obtain ⟨hlt1, hlt2⟩ := hlt
        obtain ⟨t, ht⟩ : ∃ t, l[k]? = some t := ⟨_, List.getElem?_eq_getElem (by rw [HL.out.1]; exact hlt1)⟩
        obtain ⟨hki, X, rfl, c0, c1, c2, c3⟩ := (HL.out.new hm).2.2 k t ht
        have HKI := Lib.hid hki
        have HT := Lib.hid ht
        have hlt1' : (k : Int) < len1 := by omega
        have hlt2' : (k : Int) < 150 := by omega
        have HM := Lib.hid hm
        clear ht hki hm
        go_wp2_with fail
        refine (stepBoth t b M b' (b' + 1) x y z k ks wr hB.out (by omega) HOK.out HKI.out).mono ?_; rintro e w5 ⟨rfl, b5, m5⟩
        have B5 := Lib.hid b5
        have hm5 : Mod (fun _ => False) w w5 := HM.out.new m5 (by intro i hi; have := HN.out; unfold Turn at hi; omega)
        have HM5 := Lib.hid hm5
        obtain ⟨ks5, hks5⟩ : ∃ l, l = stepK x y z ks t := ⟨_, rfl⟩
        rw [← hks5] at B5
        obtain ⟨_, X', hX', c0, c1, c2, c3⟩ := (HL.out.new hm5).2.2 k t HT.out
        cases hX'
        have hlen7 : ks5.length ≤ 64 := B5.out.len g6
        clear b5 m5 hm5 hks5 hB HM
        go_wp2_with fail
        refine (strKnown b M x y z ks5 w5 B5.out.t (by omega)).mono ?_; rintro e w6 ⟨v6, rfl, o6, m6⟩
        have O6 := Lib.hid o6
        have B6 := Lib.hid (B5.out.new m6)
        have HM6 := Lib.hid (HM5.out.trans m6)
        have f0 := m6.cell c0 (fun h => h); have f1 := m6.cell c1 (fun h => h); have f2 := m6.cell c2 (fun h => h); have f3 := m6.cell c3 (fun h => h)
        clear o6 m6 B5 HM5 c0 c1 c2 c3
        go_wp2_with fail
        refine (refIds b' (b' + 1) x y z ks5 w6 B6.out.r (by omega)).mono ?_; rintro e w7 ⟨v7, rfl, o7, m7⟩
        have HSM := Lib.hid (same10 v6 v7 (keysL ks5) (keysL ks5).length w7 (owns_new O6.out m7).sl o7.sl (by rw [keys_len]; omega))
        have B7 := Lib.hid (B6.out.new m7)
        have HM7 := Lib.hid (HM6.out.trans m7)
        have c0 := m7.cell f0 (fun h => h); have c1 := m7.cell f1 (fun h => h); have c2 := m7.cell f2 (fun h => h); have c3 := m7.cell f3 (fun h => h)
        clear o7 m7 B6 HM6 f0 f1 f2 f3
        go_wp2_with fail
        refine HSM.out.mono ?_; rintro e w8 ⟨rfl, m8⟩
        have B8 := Lib.hid (B7.out.new m8)
        have HM8 := Lib.hid (HM7.out.trans m8)
        have f0 := m8.cell c0 (fun h => h); have f1 := m8.cell c1 (fun h => h); have f2 := m8.cell c2 (fun h => h); have f3 := m8.cell c3 (fun h => h)
        clear m8 B7 HM7 c0 c1 c2 c3
        go_wp2_with fail
        refine (refOf t.i b' (b' + 1) x y z ks5 w8 B8.out.r (by omega) B8.out.ok.rising).mono ?_; rintro e w9 ⟨rfl, m9⟩
        obtain ⟨rs, hrs⟩ : ∃ r, r = (rd ks5 t.i).s := ⟨_, rfl⟩
        obtain ⟨ru, hru⟩ : ∃ r, r = (rd ks5 t.i).u := ⟨_, rfl⟩
        obtain ⟨rb, hrb⟩ : ∃ r, r = (rd ks5 t.i).b := ⟨_, rfl⟩
        obtain ⟨ri, hri⟩ : ∃ r, r = idf ks5 t.i := ⟨_, rfl⟩
        obtain ⟨BN, hBN⟩ : ∃ BN, BN = bnd ks5 t.i t.n := ⟨_, rfl⟩
        have ma := m9.alloc (.cells #[.int .i64 ri, .int .i64 rs, .int .i64 ru, .int .i64 rb] TKn)
        have BA := Lib.hid (B8.out.new ma)
        have HMA := Lib.hid (HM8.out.trans ma)
        have XA := Lib.hid (Blk.new w9 #[.int .i64 ri, .int .i64 rs, .int .i64 ru, .int .i64 rb] TKn)
        have c1 := ma.cell f1 (fun h => h); have c2 := ma.cell f2 (fun h => h)
        have HC1 := Lib.hid (fun n => strStrikes t.i b M x y z ks5 ((w9.alloc (.cells #[.int .i64 ri, .int .i64 rs, .int .i64 ru, .int .i64 rb] TKn)).drewN n) HKI.out (BA.out.t.drewN n))
        have HC2 := Lib.hid (fun n => strWasted t.i b M x y z ks5 ((w9.alloc (.cells #[.int .i64 ri, .int .i64 rs, .int .i64 ru, .int .i64 rb] TKn)).drewN n) HKI.out (BA.out.t.drewN n))
        have HC3 := Lib.hid (fun n => strBanned t.i t.n b M x y z ks5 ((w9.alloc (.cells #[.int .i64 ri, .int .i64 rs, .int .i64 ru, .int .i64 rb] TKn)).drewN n) HKI.out (BA.out.t.drewN n))
        have HC4 := Lib.hid (fun n => refBanned t.i t.n b' (b' + 1) x y z ks5 ((w9.alloc (.cells #[.int .i64 ri, .int .i64 rs, .int .i64 ru, .int .i64 rb] TKn)).drewN n) (BA.out.r.drewN n) (by omega) BA.out.ok.rising)
        rw [← hrs, ← hru, ← hrb, ← hri]
        rw [← hrs] at HC1
        rw [← hrb] at HC2
        rw [← hBN] at HC3 HC4
        clear hrs hru hrb hri hBN m9 ma f0 f1 f2 f3 B8 HM8
        go_upto_region 12 with fail
        generalize w9.alloc (.cells #[.int .i64 ri, .int .i64 rs, .int .i64 ru, .int .i64 rb] TKn) = wA at *
        obtain ⟨B9, hB9⟩ : ∃ B, B = w9.heap.size := ⟨_, rfl⟩
        rw [← hB9] at XA ⊢
        clear hB9
        have z1 := XA.out.cell 1; have z3 := XA.out.cell 3
        refine wp_region2 [] [14, 11, 12, 22] (by kernel_rfl) (by kernel_rfl) ?_
        repeat (first | (refine reg_anyT (by rfl) (fun K hK => ?_); go_simp; refine hK _ _ ?_; clear hK K) | (refine reg_read (by rfl) (fun K hK => ?_); go_simp; refine hK _ _ ?_; clear hK K))
        refine reg_read (by rfl) (fun K hK => ?_); go_simp
        refine ⟨_, fun rn => rd_same (HC1.out _), hK _ _ ?_⟩; clear hK K
        repeat (first | (refine reg_anyT (by rfl) (fun K hK => ?_); go_simp; refine hK _ _ ?_; clear hK K) | (refine reg_read (by rfl) (fun K hK => ?_); go_simp; refine hK _ _ ?_; clear hK K))
        refine reg_read (by rfl) (fun K hK => ?_); go_simp
        refine ⟨_, fun rn => rd_same (HC2.out _), hK _ _ ?_⟩; clear hK K
        repeat (first | (refine reg_anyT (by rfl) (fun K hK => ?_); go_simp; refine hK _ _ ?_; clear hK K) | (refine reg_read (by rfl) (fun K hK => ?_); go_simp; refine hK _ _ ?_; clear hK K))
        refine reg_read (by rfl) (fun K hK => ?_); go_simp
        refine ⟨_, fun rn => rd_same (HC3.out _), hK _ _ ?_⟩; clear hK K
        repeat (first | (refine reg_anyT (by rfl) (fun K hK => ?_); go_simp; refine hK _ _ ?_; clear hK K) | (refine reg_read (by rfl) (fun K hK => ?_); go_simp; refine hK _ _ ?_; clear hK K))
        refine reg_read (by rfl) (fun K hK => ?_); go_simp
        refine ⟨_, fun rn => rd_same (HC4.out _), hK _ _ ?_⟩; clear hK K
        repeat (first | (refine reg_anyT (by rfl) (fun K hK => ?_); go_simp; refine hK _ _ ?_; clear hK K) | (refine reg_read (by rfl) (fun K hK => ?_); go_simp; refine hK _ _ ?_; clear hK K))
        refine reg_nil (fun nd => ?_)
        have md := (Mod.refl (fun _ => False) wA).drewN nd
        have BB := Lib.hid (BA.out.new md)
        have MB := Lib.hid (HMA.out.trans md)
        clear md z1 z3 c1 c2
        go_wp2_with fail
        exact ⟨⟨k + 1, ks5, by go_num, by omega, by omega, BB, MB.out⟩, by simp [intOf]; omega⟩
      · have hend : (k : Int) < len1 → ¬ (k : Int) < 150 := by omega
        by_cases h6 : (k : Int) < len1
        · have h7 : ¬ (k : Int) < 150 := hend h6
          clear hend
          go_wp2_with fail
          go_ret
          exact ⟨rfl, hm⟩
        · clear hend
          go_wp2_with fail
          go_ret
          exact ⟨rfl, hm⟩
  · have HOK := Lib.hid hok
    clear hok
    go_enter Try.func7, Try.ntmps7
    go_wp2_with fail
    rw [← HW0.out]
    refine (awake15 w0).mono ?_; rintro e w1 ⟨rfl, m1⟩
    have X1 := Lib.hid (X0.out.mod m1 (fun h => h))
    have M1 := Lib.hid (MX.out.trans m1)
    have c0 := X1.out.cell 0; have c1 := X1.out.cell 1; have c2 := X1.out.cell 2
    clear m1
    go_wp2_with fail
    refine (strNewBad x y z _ (by have := HOK.out; unfold BookOk at this; omega)).mono ?_; rintro e w' ⟨rfl, rfl⟩
    go_wp2_with fail
    refine (refNewBad x y z _ HOK.out).mono ?_; rintro e w' ⟨rfl, rfl⟩
    go_wp2_with fail
    go_loopw [10] (fun v wr => v = .int .i64 0 ∧ wr = w1) (fun _ _ => 0)
    case atStart => exact ⟨rfl, rfl⟩
    case round =>
      obtain ⟨rfl, rfl⟩ := hrel
      by_cases h6 : (0 : Int) < len1
      · go_wp2_with fail
        go_ret
        exact ⟨rfl, M1.out⟩
      · go_wp2_with fail
        go_ret
        exact ⟨rfl, M1.out⟩
end Go.Proofs.Ytiabjaaamgjlnaa
