/- A strike while a ban lasts; the walk of the statement StrikesBound (under way); no condition. -/
import Derived.Test.YtiabjaaamgjlnaaStrL2
namespace Go.Proofs.Ytiabjaaamgjlnaa
open Go Go.RowKit

set_option maxRecDepth 100000 in
set_option maxHeartbeats 1000000 in
theorem strStrikeNo (id now by' : Int) (b M : Nat) (lim ban most : Int) (ks : List (Int × Rc)) (w : World) (hi : 1 ≤ id) (hi2 : id ≤ 65536) (hn : 0 ≤ now) (hn2 : now ≤ 1099511627776) (hb : 0 ≤ by') (hb2 : by' ≤ 1048576) (h : BK w b M lim ban most ks) (hnb : bnd ks id now = true) :
    Calls Try.prog 10 #[.pointer (some ⟨b, 0, none⟩), .int .i64 id, .int .i64 now, .int .i64 by'] w fun e w' => e = .returned (.tuple #[.bool false, .int .i64 9]) ∧ w = w' := by
  have e1 : (decide (1 ≤ id) && decide (id ≤ 65536)) = true := by simp [hi, hi2]
  have e2 : (decide (0 ≤ now) && decide (now ≤ 1099511627776)) = true := by simp [hn, hn2]
  have e3 : (decide (0 ≤ by') && decide (by' ≤ 1048576)) = true := by simp [hb, hb2]
  have HI := Lib.hid (i64_of (k := id) (by omega) (by omega))
  have HB := Lib.hid h
  clear h
  go_enter Try.func10, Try.ntmps10
  go_wp2_with fail
  refine (strWithin _ _ _ _).mono ?_; rw [e1]; rintro e w' ⟨rfl, rfl⟩
  go_wp2_with fail
  refine (strWithin _ _ _ _).mono ?_; rw [e2]; rintro e w' ⟨rfl, rfl⟩
  go_wp2_with fail
  refine (strWithin _ _ _ _).mono ?_; rw [e3]; rintro e w' ⟨rfl, rfl⟩
  go_wp2_with fail
  refine (strBanned _ _ _ _ _ _ _ _ _ HI.out HB.out).mono ?_; rw [hnb]; rintro e w' ⟨rfl, rfl⟩
  go_wp2_with fail
  go_ret2
  exact ⟨rfl, rfl⟩

set_option maxRecDepth 100000 in
set_option maxHeartbeats 1000000 in
theorem strikesBound_walk (x0 x1 id now : Int) (w : World) (_ : (Lit.int .i64 x0).wf = true) (_ : (Lit.int .i64 x1).wf = true) (_ : (Lit.int .i64 id).wf = true) (_ : (Lit.int .i64 now).wf = true) :
    Calls Try.prog 3 #[.agg #[.int .i64 x0, .int .i64 x1], .int .i64 id, .int .i64 now] w fun e w' => e = .returned (.bool true) ∧ Below w.heap.size w w' := by
  refine Calls.mono (R := fun e w' => e = .returned (.bool true) ∧ Mod (fun _ => False) w w') ?_ (fun e w' ⟨h1, h2⟩ => ⟨h1, h2.below (Nat.le_refl _) (fun _ h => h.elim)⟩)
  by_cases hok : 1 ≤ x0 ∧ x0 ≤ 100 ∧ 1 ≤ x1 ∧ x1 ≤ 1048576
  · obtain ⟨a1, a2, a3, a4⟩ := hok
    have HL : Hid (1 ≤ x0 ∧ x0 ≤ 100 ∧ 1 ≤ x1 ∧ x1 ≤ 1048576) := ⟨a1, a2, a3, a4⟩
    by_cases hin : 1 ≤ id ∧ id ≤ 65536 ∧ 0 ≤ now ∧ now ≤ 1073741824
    · obtain ⟨b1, b2, b3, b4⟩ := hin
      have HIN : Hid (1 ≤ id ∧ id ≤ 65536 ∧ 0 ≤ now ∧ now ≤ 1073741824) := ⟨b1, b2, b3, b4⟩
      go_enter Try.func3, Try.ntmps3
      go_wp2_with fail
      refine (awake15 _).mono ?_; rintro e w1 ⟨rfl, m1⟩
      have hx := (Blk.new w _ _).mod m1 (fun h => h)
      have c0 := hx.cell 0
      have c1 := hx.cell 1
      have m01 := ((Mod.refl (fun _ => False) w).alloc _).trans m1
      clear hx m1
      go_wp2_with fail
      refine (strNew x0 x1 64 _ HL.out.1 HL.out.2.1 HL.out.2.2.1 HL.out.2.2.2 (by decide) (by decide)).mono ?_; rintro e w2 ⟨rfl, h2, m2, z2⟩
      have c0' := m2.cell c0 (fun h => h)
      have c1' := m2.cell c1 (fun h => h)
      go_wp2_with fail
      have hB1 := m01.size
      have hBs : w.heap.size < w1.heap.size := World.block_lt_of_cell? w1 _ c0
      obtain ⟨B, hB⟩ : ∃ B, B = w1.heap.size := ⟨_, rfl⟩
      have m02 := m01.trans m2
      rw [← hB] at h2 hB1 hBs ⊢
      clear b1 b2 b3 b4 a1 a2 a3 a4 c0 c1 z2 m2 hB
      go_loopw [10, 11] (fun u v wr => ∃ (k : Nat) (sum : Int) (ks : List (Int × Rc)), v = .int .i64 ((k : Int) + 1) ∧ u = .int .i64 sum ∧ (k : Int) ≤ x0 ∧ 0 ≤ sum ∧ sum ≤ 1000 * k ∧ Hid (ks = [] ∧ k = 0 ∧ sum = 0 ∨ ks = [(id, ⟨k, if x0 ≤ k then now + k + x1 else 0, sum⟩)]) ∧ Hid (BK wr (B + 1) B x0 x1 64 ks) ∧ Mod (· = B) w2 wr) (fun _ v _ => x0.toNat + 1 - (intOf v).toNat)
      case atStart => exact ⟨0, 0, [], rfl, rfl, by have := HL.out; omega, by omega, by omega, .inl ⟨rfl, rfl, rfl⟩, h2, Mod.refl _ _⟩
      case round =>
        obtain ⟨k, sum, ks, rfl, rfl, hk, hs0, hs1, hks, hb, hm⟩ := hrel
        have d0 := hm.cell c0' (by show ¬ w.heap.size = B; omega)
        have d1 := hm.cell c1' (by show ¬ w.heap.size = B; omega)
        have hI : I64 id := i64_of (by have := HIN.out; omega) (by have := HIN.out; omega)
        have HI := Lib.hid hI
        have hk1 : ks = [] ∨ ∃ r, ks = [(id, r)] := by
          rcases hks.out with h | h
          · exact .inl h.1
          · exact .inr ⟨_, h⟩
        by_cases hlt : (k : Int) < x0
        · have hrd : rd ks id = ⟨k, 0, sum⟩ := by
            rcases hks.out with ⟨h, h0, hs⟩ | h
            · subst h; subst h0; subst hs; rfl
            · rw [h, rd1, if_neg (by omega)]
          have hk9 : (k : Int) ≤ 100 := by have := HL.out; omega
          have hnw := HIN.out.2.2
          have K1 := Lib.hid hk1
          have RD := Lib.hid hrd
          have HLEN := Lib.hid (len1 hk1)
          clear hI hk1 hrd
          go_wp2_with fail
          have hy1 : 0 ≤ ((k : Int) + 1) * 31 % 1000 := by omega
          have hy2 : ((k : Int) + 1) * 31 % 1000 ≤ 999 := by omega
          generalize ((k : Int) + 1) * 31 % 1000 = y at hy1 hy2 ⊢
          obtain ⟨u1, hu1⟩ : ∃ u : Int, u = if x0 ≤ (k : Int) + 1 then now + ((k : Int) + 1) + x1 else 0 := ⟨_, rfl⟩
          have hp : ((putL ks id ⟨(k : Int) + 1, u1, sum + y⟩).length : Int) ≤ 64 := by rw [put1 K1.out]; simp
          refine (strStrikeA id (now + ((k : Int) + 1)) y k sum _ _ x0 x1 64 ks _ HIN.out.1 HIN.out.2.1 (by omega) (by omega) hy1 (by omega) hb.out RD.out (by omega) (by omega) (by omega) (by omega) (by have := HL.out; omega) (by have := HL.out; omega) HLEN.out ⟨(k : Int) + 1, u1, sum + y⟩ (by rw [hu1]) hp).mono ?_; rintro e w3 ⟨rfl, h3, m3⟩
          rw [put1 K1.out] at h3
          have H3 := Lib.hid h3
          have HU := Lib.hid hu1
          clear h3 hp hu1
          by_cases hx : x0 ≤ (k : Int) + 1
          · have hx2 : (k : Int) + 1 = x0 := by omega
            have hu : u1 = now + ((k : Int) + 1) + x1 := by rw [HU.out, if_pos hx]
            subst hu
            have hbn : bnd [(id, ⟨(k : Int) + 1, now + ((k : Int) + 1) + x1, sum + y⟩)] id (now + x0) = true := by
              unfold bnd; rw [rd1]; simp; have := HL.out; omega
            have hdu : decide (0 < now + ((k : Int) + 1) + x1) = true := by simp; have := HL.out; omega
            rw [hdu]
            have m35 : Mod (· = B) w2 w3 := hm.trans m3
            have d0' := m3.cell d0 (by show ¬ w.heap.size = B; omega)
            have d1' := m3.cell d1 (by show ¬ w.heap.size = B; omega)
            have hy3 : 0 ≤ sum + y := by omega
            have hy4 : sum + y ≤ 1000 * ((k : Int) + 1) := by omega
            have hy5 : sum + y ≤ x0 * 1000 := by omega
            have hx8 : 1 ≤ x0 := HL.out.1
            have hx9 : x0 ≤ 100 := HL.out.2.1
            clear hdu HU m3 d0 d1
            go_wp2_with fail
            refine (strWasted _ _ _ _ _ _ _ _ HI.out H3.out).mono ?_; rw [rd1]; rintro e w' ⟨rfl, rfl⟩
            go_wp2_with fail
            refine (strBanned _ _ _ _ _ _ _ _ _ HI.out H3.out).mono ?_; rw [hbn]; rintro e w' ⟨rfl, rfl⟩
            go_wp2_with fail
            exact ⟨⟨k + 1, sum + y, _, by first | rfl | (congr 1; omega), rfl, by omega, hy3, by omega, .inr (by rw [show ((k + 1 : Nat) : Int) = (k : Int) + 1 by omega, if_pos hx]), H3, m35⟩, by simp [intOf]; omega⟩
          · have hx2 : (((k : Int) + 1) == x0) = false := by rw [beq_eq_false_iff_ne]; omega
            have hx3 : ¬ (k : Int) + 1 = x0 := by omega
            have hu : u1 = 0 := by rw [HU.out, if_neg hx]
            subst hu
            have hbn : bnd [(id, ⟨(k : Int) + 1, 0, sum + y⟩)] id (now + ((k : Int) + 1)) = false := by
              unfold bnd; rw [rd1]; simp
            have hdu : decide (0 < (0 : Int)) = false := by simp
            rw [hdu]
            have m35 : Mod (· = B) w2 w3 := hm.trans m3
            have d0' := m3.cell d0 (by show ¬ w.heap.size = B; omega)
            have d1' := m3.cell d1 (by show ¬ w.heap.size = B; omega)
            have hy3 : 0 ≤ sum + y := by omega
            have hy4 : sum + y ≤ 1000 * ((k : Int) + 1) := by omega
            have hy5 : sum + y ≤ x0 * 1000 := by omega
            have hx8 : 1 ≤ x0 := HL.out.1
            have hx9 : x0 ≤ 100 := HL.out.2.1
            clear hdu HU m3 d0 d1
            go_wp2_with fail
            refine (strWasted _ _ _ _ _ _ _ _ HI.out H3.out).mono ?_; rw [rd1]; rintro e w' ⟨rfl, rfl⟩
            go_wp2_with fail
            refine (strBanned _ _ _ _ _ _ _ _ _ HI.out H3.out).mono ?_; rw [hbn]; rintro e w' ⟨rfl, rfl⟩
            go_wp2_with fail
            exact ⟨⟨k + 1, sum + y, _, by first | rfl | (congr 1; omega), rfl, by omega, hy3, by omega, .inr (by rw [show ((k + 1 : Nat) : Int) = (k : Int) + 1 by omega, if_neg (by omega)]), H3, m35⟩, by simp [intOf]; omega⟩
        · have hkx : (k : Int) = x0 := by omega
          have hks1 : ks = [(id, ⟨k, now + k + x1, sum⟩)] := by
            rcases hks.out with h | h
            · have := HL.out; omega
            · rw [h, if_pos (by omega)]
          subst hks1
          have hA : bnd [(id, (⟨k, now + k + x1, sum⟩ : Rc))] id (now + x0 + x1 - 1) = true := by
            unfold bnd; rw [rd1]; simp; have := HL.out; have := HIN.out; omega
          have hB : bnd [(id, (⟨k, now + k + x1, sum⟩ : Rc))] id (now + x0 + x1) = false := by
            unfold bnd; rw [rd1]; simp; have := HL.out; have := HIN.out; omega
          have hA := Lib.hid hA
          have hB := Lib.hid hB
          have hnw := HIN.out
          have hlw := HL.out
          have hm' := m02.new hm (by intro i hi; omega)
          have hu0 : 0 < now + (k : Int) + x1 := by omega
          have hu0 := Lib.hid hu0
          have hkx := Lib.hid hkx
          clear hks hk1 hI hk
          have hmB := Lib.hid hm
          clear hm
          obtain ⟨a1, a2, a3, a4⟩ := hlw
          obtain ⟨b1, b2, b3, b4⟩ := hnw
          go_wp2_with fail
          refine (strStrikeNo id (now + x0 + x1 - 1) 5 _ _ x0 x1 64 _ _ b1 b2 (by omega) (by omega) (by decide) (by decide) hb.out hA.out).mono ?_; rintro e w' ⟨rfl, rfl⟩
          go_wp2_with fail
          refine (strBanned id (now + x0 + x1) _ _ x0 x1 64 _ _ HI.out hb.out).mono ?_; rw [hB.out]; rintro e w' ⟨rfl, rfl⟩
          obtain ⟨u1, hu1⟩ : ∃ u : Int, u = if x0 ≤ 1 then now + x0 + x1 + x1 else 0 := ⟨_, rfl⟩
          have HU := Lib.hid hu1
          clear hu1
          go_wp2_with fail
          refine (strStrikeB id (now + x0 + x1) 5 k (now + k + x1) sum _ _ x0 x1 64 _ _ b1 b2 (by omega) (by omega) (by decide) (by decide) hb.out (rd1 _ _) hu0.out hB.out (by omega) (by omega) (len1 (.inr ⟨_, rfl⟩)) ⟨1, u1, 5⟩ (by rw [HU.out]) (by rw [put1 (.inr ⟨_, rfl⟩)]; simp)).mono ?_; rintro e w3 ⟨rfl, h3, m3⟩
          rw [put1 (.inr ⟨_, rfl⟩)] at h3
          have H3 := Lib.hid h3
          have m3' := hm'.new m3 (by intro i hi; omega)
          clear h3 m3 hm'
          go_wp2_with fail
          refine (strWasted _ _ _ _ _ _ _ _ HI.out H3.out).mono ?_; rw [rd1]; rintro e w' ⟨rfl, rfl⟩
          go_wp2_with fail
          go_ret
          exact ⟨rfl, m3'⟩
    · go_enter Try.func3, Try.ntmps3
      go_wp2_with fail
      refine (awake15 _).mono ?_; rintro e w1 ⟨rfl, m1⟩
      have hx := (Blk.new w _ _).mod m1 (fun h => h)
      have c0 := hx.cell 0
      have c1 := hx.cell 1
      have m01 := ((Mod.refl (fun _ => False) w).alloc _).trans m1
      clear hx m1
      go_wp2_with fail
      refine (strNew x0 x1 64 _ HL.out.1 HL.out.2.1 HL.out.2.2.1 HL.out.2.2.2 (by decide) (by decide)).mono ?_; rintro e w2 ⟨rfl, h2, m2, z2⟩
      have c0' := m2.cell c0 (fun h => h)
      have c1' := m2.cell c1 (fun h => h)
      have hbad : (decide (id < 1) || decide (65536 < id) || decide (now < 0) || decide (1073741824 < now)) = true := by
        simp only [Bool.or_eq_true, decide_eq_true_eq]; omega
      go_wp2_with fail
      all_goals first | (go_ret; exact ⟨rfl, m01.trans m2⟩) | (exfalso; omega)
  · go_enter Try.func3, Try.ntmps3
    go_wp2_with fail
    refine (awake15 _).mono ?_; rintro e w1 ⟨rfl, m1⟩
    have hx := (Blk.new w _ _).mod m1 (fun h => h)
    have c0 := hx.cell 0
    have c1 := hx.cell 1
    have m01 := ((Mod.refl (fun _ => False) w).alloc _).trans m1
    clear hx m1
    go_wp2_with fail
    refine (strNewBad x0 x1 64 _ (by omega)).mono ?_; rintro e w' ⟨rfl, rfl⟩
    go_wp2_with fail
    go_ret
    exact ⟨rfl, m01⟩
end Go.Proofs.Ytiabjaaamgjlnaa
