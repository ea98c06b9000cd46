/- The walk of the statement StrikesKnown: the call returns true and turns nothing that was there; no condition. -/
import Derived.Test.YtiabjaaamgjlnaaSwO
namespace Go.Proofs.Ytiabjaaamgjlnaa
open Go Go.RowKit

theorem Mod.bel {w w' : World} (h : Mod (fun _ => False) w w') : Below w.heap.size w w' := h.below (Nat.le_refl _) (fun _ h => h.elim)
theorem step_still {lim ban most : Int} {ks : List (Int × Rc)} {s : St} (hd : s.d = 0) (hb : bnd ks s.i s.n = true) : stepK lim ban most ks s = ks := by
  unfold stepK
  rw [if_pos hd]
  unfold strK
  rw [if_neg]
  rw [hb]
  simp

set_option maxRecDepth 100000 in
set_option maxHeartbeats 4000000 in
theorem strikesKnown_walk (z0 : X3) (a1 : Option Addr) (len1 cap1 : Nat) (l : List St) (w : World) (_ : True) (hl : IsSteps w a1 len1 l) :
    Calls Try.prog 6 #[x3V z0, .slice a1 len1 cap1] w fun e w' => e = .returned (.bool true) ∧ Below w.heap.size w w' := by
  refine Calls.mono (R := fun e w' => e = .returned (.bool true) ∧ Mod (fun _ => False) w w') ?_ (fun e w' ⟨h1, h2⟩ => ⟨h1, h2.bel⟩)
  obtain ⟨x, y, z⟩ := z0
  unfold x3V
  dsimp only
  have HL := Lib.hid hl
  have hll : (len1 : Int) ≤ 9223372036854775807 := hl.2.1
  clear hl
  have mx := (Mod.refl (fun _ => False) w).alloc (.cells #[.int .i64 x, .int .i64 y, .int .i64 z] 38)
  have X0 := Lib.hid (Blk.new w #[.int .i64 x, .int .i64 y, .int .i64 z] 38)
  have MX := Lib.hid mx
  obtain ⟨w0, hw0⟩ : ∃ w0, w0 = w.alloc (.cells #[.int .i64 x, .int .i64 y, .int .i64 z] 38) := ⟨_, rfl⟩
  rw [← hw0] at X0 MX
  have HW0 := Lib.hid hw0
  clear mx hw0
  by_cases hok : BookOk x y z
  · have HOK := Lib.hid hok
    have hok' := hok
    obtain ⟨g1, g2, g3, g4, g5, g6⟩ := hok'
    clear hok
    go_enter Try.func6, Try.ntmps6
    go_wp2_with fail
    rw [← HW0.out]
    refine (awake15 w0).mono ?_; rintro e w1 ⟨rfl, m1⟩
    have X1 := Lib.hid (X0.out.mod m1 (fun h => h))
    have M1 := Lib.hid (MX.out.trans m1)
    have c0 := X1.out.cell 0; have c1 := X1.out.cell 1; have c2 := X1.out.cell 2
    clear m1
    go_wp2_with fail
    refine (strNew x y z _ g1 g2 g3 g4 g5 g6).mono ?_; rintro e w2 ⟨rfl, t2, m2, s2⟩
    have T2 := Lib.hid t2
    have M2 := Lib.hid m2
    have X2 := Lib.hid (X1.out.mod m2 (fun h => h))
    have d0 := m2.cell c0 (fun h => h); have d1 := m2.cell c1 (fun h => h); have d2 := m2.cell c2 (fun h => h)
    clear t2 m2 c0 c1 c2
    go_wp2_with fail
    refine (refNew x y z _ HOK.out).mono ?_; rintro e w3 ⟨rfl, r3, m3, s3⟩
    have X3 := Lib.hid (X2.out.mod m3 (fun h => h))
    obtain ⟨b, hb⟩ : ∃ b, b = w1.heap.size + 1 := ⟨_, rfl⟩
    obtain ⟨M, hM⟩ : ∃ b, b = w1.heap.size := ⟨_, rfl⟩
    obtain ⟨b', hb'⟩ : ∃ b, b = w2.heap.size := ⟨_, rfl⟩
    have hz : w.heap.size < w1.heap.size := X1.out.lt
    have two : Two w3 b M b' (b' + 1) x y z 0 [] := by
      refine ⟨?_, ?_, by omega, OkB.nil _ _ (by omega)⟩
      · rw [hb, hM]; exact T2.out.new m3
      · rw [hb']; exact r3
    have TW := Lib.hid two
    have M3 := Lib.hid ((M1.out.trans M2.out).trans m3)
    have HN : Hid (w.heap.size < b ∧ w.heap.size < M ∧ w.heap.size < b') := by show _ ∧ _ ∧ _; omega
    rw [← hb, ← hb']
    clear two r3 m3 hb hM hb' hz T2 M2 M1 d0 d1 d2 s2 s3 X1 X2
    go_wp2_with fail
    go_loopw [10] (fun v wr => ∃ (k : Nat) (ks : List (Int × Rc)), v = .int .i64 k ∧ k ≤ len1 ∧ k ≤ 100 ∧ Hid (Two wr b M b' (b' + 1) x y z k ks) ∧ Hid (Blk wr w.heap.size #[.int .i64 x, .int .i64 y, .int .i64 z] 38) ∧ Mod (fun _ => False) w wr) (fun v _ => 100 - (intOf v).toNat)
    case atStart => exact ⟨0, [], rfl, Nat.zero_le _, Nat.zero_le _, TW, X3, M3.out⟩
    case round =>
      obtain ⟨k, ks, rfl, hk, hk150, hB, hX, hm⟩ := hrel
      by_cases hlt : k < len1 ∧ k < 100
      · obtain ⟨hlt1, hlt2⟩ := hlt
        obtain ⟨t, ht⟩ : ∃ t, l[k]? = some t := ⟨_, List.getElem?_eq_getElem (by rw [HL.out.1]; exact hlt1)⟩
        obtain ⟨hki, X, rfl, c0, c1, c2, c3⟩ := (HL.out.new hm).2.2 k t ht
        have HKI := Lib.hid hki
        have HT := Lib.hid ht
        have hlt1' : (k : Int) < len1 := by omega
        have hlt2' : (k : Int) < 100 := by omega
        have HM := Lib.hid hm
        have hkl := HM.out.size
        obtain ⟨BN, hBN⟩ : ∃ BN, BN = bnd ks t.i t.n := ⟨_, rfl⟩
        have HBC := Lib.hid (fun n => strBanned t.i t.n b M x y z ks (wr.drewN n) HKI.out (hB.out.t.drewN n))
        rw [← hBN] at HBC
        have HBN := Lib.hid hBN
        clear ht hki hm hBN
        go_wp2_with fail
        refine wp_region2 [] [12] (by kernel_rfl) (by kernel_rfl) ?_
        repeat (first | (refine reg_anyT (by rfl) (fun K hK => ?_); go_simp; refine hK _ _ ?_; clear hK K) | (refine reg_read (by rfl) (fun K hK => ?_); go_simp; refine hK _ _ ?_; clear hK K))
        refine reg_read (by rfl) (fun K hK => ?_); go_simp
        refine ⟨_, fun rn => rd_same (HBC.out _), hK _ _ ?_⟩; clear hK K
        repeat (first | (refine reg_anyT (by rfl) (fun K hK => ?_); go_simp; refine hK _ _ ?_; clear hK K) | (refine reg_read (by rfl) (fun K hK => ?_); go_simp; refine hK _ _ ?_; clear hK K))
        refine reg_nil (fun nd => ?_)
        have m4 : Mod (fun _ => False) wr (wr.drewN nd) := (Mod.refl _ wr).drewN nd
        have B4 := Lib.hid (hB.out.new m4)
        have X4 := Lib.hid (hX.out.mod m4 (fun h => h))
        have HM4 := Lib.hid (HM.out.trans m4)
        have e0 := m4.cell c0 (fun h => h); have e1 := m4.cell c1 (fun h => h); have e2 := m4.cell c2 (fun h => h); have e3 := m4.cell c3 (fun h => h)
        clear m4 c0 c1 c2 c3 hB hX HBC HM hkl
        generalize wr.drewN nd = w4 at *
        go_wp2_with fail
        refine (strStrikes t.i b M x y z ks w4 HKI.out B4.out.t).mono ?_; rintro e w' ⟨rfl, rfl⟩
        go_wp2_with fail
        refine (stepBoth t b M b' (b' + 1) x y z k ks w4 B4.out (by omega) HOK.out HKI.out).mono ?_; rintro e w5 ⟨rfl, b5, m5⟩
        have B5 := Lib.hid b5
        have hm5 : Mod (fun _ => False) w w5 := HM4.out.new m5 (by intro i hi; have := HN.out; unfold Turn at hi; omega)
        have HM5 := Lib.hid hm5
        have X5 := Lib.hid (X4.out.mod m5 (by have := HN.out; unfold Turn; omega))
        obtain ⟨ks5, hks5⟩ : ∃ l, l = stepK x y z ks t := ⟨_, rfl⟩
        rw [← hks5] at B5
        have HKS := Lib.hid hks5
        obtain ⟨_, X', hX', c0, c1, c2, c3⟩ := (HL.out.new hm5).2.2 k t HT.out
        cases hX'
        clear b5 m5 hm5 hks5 e0 e1 e2 e3 B4 X4 HM4
        go_wp2_with fail
        refine (strKnown b M x y z ks5 w5 B5.out.t (by have := B5.out.len g6; omega)).mono ?_; rintro e w6 ⟨v6, rfl, o6, m6⟩
        rw [keys_len] at o6
        obtain ⟨a6, cap6, rfl, hc6, e6, _⟩ := o6.els
        have E6 := Lib.hid e6
        have B6 := Lib.hid (B5.out.new m6)
        have X6 := Lib.hid (X5.out.mod m6 (fun h => h))
        have HM6 := Lib.hid (HM5.out.trans m6)
        have f0 := m6.cell c0 (fun h => h); have f1 := m6.cell c1 (fun h => h)
        have x2 := X6.out.cell 2
        have hlen6 : (ks5.length : Int) ≤ z := B6.out.ok.len
        have hlen7 : ks5.length ≤ 64 := B6.out.len g6
        clear o6 m6 e6 B5 X5 HM5 c0 c1 c2 c3
        go_upto_region 13 with fail
        go_cut [11, 119] from 55 to 135 (fun u v wx => (∃ B, u = .bool B) ∧ v = .bool false ∧ wx = w6)
        case first =>
          have hnl : decide (z < (ks5.length : Int)) = false := by simp; omega
          have HST := Lib.hid (strStrikes t.i b M x y z ks5 w6 HKI.out B6.out.t)
          by_cases hd : t.d = 0
          · have hd' : (t.d == 0) = true := by simpa using hd
            have HD := Lib.hid hd
            clear hd
            cases hBNv : BN with
            | true =>
              have hks : ks5 = ks := by rw [HKS.out]; exact step_still HD.out (by rw [← HBN.out, hBNv])
              have HKK := Lib.hid (show (rd ks5 t.i).s = (rd ks t.i).s by rw [hks])
              clear hks
              go_wp2_with fail
              refine HST.out.mono ?_; rw [HKK.out]; rintro e w' ⟨rfl, rfl⟩
              go_wp2_with fail
              go_meet
              exact ⟨⟨_, rfl⟩, by simp, rfl⟩
            | false =>
              go_wp2_with fail
              go_meet
              exact ⟨⟨_, rfl⟩, by simp, rfl⟩
          · have hd' : (t.d == 0) = false := by simpa using hd
            clear hd
            go_wp2_with fail
            go_meet
            exact ⟨⟨_, rfl⟩, by simp, rfl⟩
        case rest =>
          obtain ⟨⟨BX, rfl⟩, rfl, hwcc⟩ := hcut
          rw [hwcc]
          clear hwcc wc f0 f1 x2
          have HRI := Lib.hid B6.out.ok.rising
          have hlenI : (ks5.length : Int) ≤ 64 := by omega
          go_wp2_with fail
          go_loopw [14] (fun v wr => ∃ j : Nat, v = .int .i64 ((j : Int) + 1) ∧ j ≤ ks5.length ∧ Draws w6 wr) (fun v _ => ks5.length + 1 - (intOf v).toNat)
          case atStart => exact ⟨0, rfl, Nat.zero_le _, 0, rfl⟩
          case round =>
            obtain ⟨j, rfl, hj, n6, rfl⟩ := hrel
            by_cases hjl : (j : Int) + 1 < ks5.length
            · obtain ⟨⟨p, rp⟩, hp⟩ : ∃ q, ks5[j]? = some q := ⟨_, List.getElem?_eq_getElem (by omega)⟩
              obtain ⟨⟨q, rq⟩, hq⟩ : ∃ q, ks5[j + 1]? = some q := ⟨_, List.getElem?_eq_getElem (by omega)⟩
              have hpq : p < q := by
                have h1 := (List.getElem?_eq_some_iff.1 hp).1
                have h2 := (List.getElem?_eq_some_iff.1 hq).1
                have := List.pairwise_iff_getElem.1 HRI.out j (j + 1) h1 h2 (by omega)
                rw [(List.getElem?_eq_some_iff.1 hp).2, (List.getElem?_eq_some_iff.1 hq).2] at this
                exact this
              obtain ⟨Y, hY, y0, _⟩ := E6.out j (by omega)
              have g0 := y0 (.int .i64 p) (by rw [Nat.mul_one]; simp [intL, keysL, hp])
              obtain ⟨Y2, hY2, y1, _⟩ := E6.out (j + 1) (by omega)
              have g1 := y1 (.int .i64 q) (by rw [Nat.mul_one]; simp [intL, keysL, hq])
              cases hY
              cases hY2
              simp only [Nat.mul_one] at g0 g1
              have hwr2 : IntKind.i64.wrap (j : Int) = (j : Int) := by unfold IntKind.wrap; simp [IntKind.bits, IntKind.signed]; omega
              have hj1 : (j : Int) + 1 - 1 = (j : Int) := by omega
              have hjj : (0 : Int) ≤ (j : Int) + 1 := by omega
              have htn : ((j : Int) + 1).toNat = j + 1 := by omega
              have hjl2 : j + 1 < ks5.length := by omega
              have hjl3 : j < ks5.length := by omega
              have hjl4 : (j : Int) < ks5.length := by omega
              have hle : decide (q ≤ p) = false := by simp; omega
              clear hp hq y0 y1
              have g1' : w6.cell? ⟨Y.block, Y.off + (j + 1), none⟩ = some (.int .i64 q) := by
                have := g1
                unfold Addr.add at this
                rw [if_neg (by omega)] at this
                exact this
              clear g1
              go_wp2_with fail
              refine wp_region2 [] [] (by kernel_rfl) (by kernel_rfl) ?_
              repeat (first | (refine reg_anyT (by rfl) (fun K hK => ?_); go_simp; refine hK _ _ ?_; clear hK K) | (refine reg_read (by rfl) (fun K hK => ?_); go_simp; refine hK _ _ ?_; clear hK K))
              refine reg_nil (fun nd => ?_)
              go_wp2_with fail
              exact ⟨⟨j + 1, by go_num, by omega, _, rfl⟩, by simp [intOf]; omega⟩
            · have md := (Mod.refl (fun _ => False) w6).drewN n6
              have B7 := Lib.hid (B6.out.new md)
              have X7 := Lib.hid (X6.out.mod md (fun h => h))
              have M7 := Lib.hid (HM6.out.trans md)
              clear md
              go_wp2_with fail
              exact ⟨⟨k + 1, ks5, by go_num, by omega, by omega, B7, X7, M7.out⟩, by simp [intOf]; omega⟩
      · have hend : (k : Int) < len1 → ¬ (k : Int) < 100 := by omega
        by_cases h6 : (k : Int) < len1
        · have h7 : ¬ (k : Int) < 100 := hend h6
          clear hend
          go_wp2_with fail
          go_ret
          exact ⟨rfl, hm⟩
        · clear hend
          go_wp2_with fail
          go_ret
          exact ⟨rfl, hm⟩
  · have HOK := Lib.hid hok
    clear hok
    go_enter Try.func6, Try.ntmps6
    go_wp2_with fail
    rw [← HW0.out]
    refine (awake15 w0).mono ?_; rintro e w1 ⟨rfl, m1⟩
    have X1 := Lib.hid (X0.out.mod m1 (fun h => h))
    have M1 := Lib.hid (MX.out.trans m1)
    have c0 := X1.out.cell 0; have c1 := X1.out.cell 1; have c2 := X1.out.cell 2
    clear m1
    go_wp2_with fail
    refine (strNewBad x y z _ (by have := HOK.out; unfold BookOk at this; omega)).mono ?_; rintro e w' ⟨rfl, rfl⟩
    go_wp2_with fail
    go_ret
    exact ⟨rfl, M1.out⟩
end Go.Proofs.Ytiabjaaamgjlnaa
