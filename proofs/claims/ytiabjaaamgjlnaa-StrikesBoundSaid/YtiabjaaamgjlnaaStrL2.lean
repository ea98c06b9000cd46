/- The walk of the statement StrikesGood: the call returns true and turns nothing that was there; no condition. -/
import Derived.Test.YtiabjaaamgjlnaaStrL
namespace Go.Proofs.Ytiabjaaamgjlnaa
open Go Go.RowKit

theorem put1 {ks : List (Int × Rc)} {id : Int} (h : ks = [] ∨ ∃ r, ks = [(id, r)]) (N : Rc) : putL ks id N = [(id, N)] := by
  rcases h with rfl | ⟨r, rfl⟩
  · rfl
  · simp [putL, delL, insS]
theorem lk1 (id : Int) (r : Rc) : lkL [(id, r)] id = some r := by simp [lkL]
theorem rd1 (id : Int) (r : Rc) : rd [(id, r)] id = r := by unfold rd; rw [lk1]; rfl
theorem len1 {ks : List (Int × Rc)} {id : Int} (h : ks = [] ∨ ∃ r, ks = [(id, r)]) : ks.length < maxLen := by
  rcases h with rfl | ⟨r, rfl⟩ <;> simp [maxLen]

set_option maxRecDepth 100000 in
set_option maxHeartbeats 1000000 in
theorem strikesGood_walk (x0 x1 id n : Int) (w : World) (_ : (Lit.int .i64 x0).wf = true) (_ : (Lit.int .i64 x1).wf = true) (_ : (Lit.int .i64 id).wf = true) (_ : (Lit.int .i64 n).wf = true) :
    Calls Try.prog 4 #[.agg #[.int .i64 x0, .int .i64 x1], .int .i64 id, .int .i64 n] w fun e w' => e = .returned (.bool true) ∧ Below w.heap.size w w' := by
  refine Calls.mono (R := fun e w' => e = .returned (.bool true) ∧ Mod (fun _ => False) w w') ?_ (fun e w' ⟨h1, h2⟩ => ⟨h1, h2.below (Nat.le_refl _) (fun _ h => h.elim)⟩)
  by_cases hok : 1 ≤ x0 ∧ x0 ≤ 100 ∧ 1 ≤ x1 ∧ x1 ≤ 1048576
  · obtain ⟨a1, a2, a3, a4⟩ := hok
    by_cases hin : 1 ≤ id ∧ id ≤ 65536 ∧ 0 ≤ n ∧ n ≤ 100 ∧ 2 ≤ x0
    · obtain ⟨b1, b2, b3, b4, b5⟩ := hin
      have HL : Hid (1 ≤ x0 ∧ x0 ≤ 100 ∧ 1 ≤ x1 ∧ x1 ≤ 1048576) := ⟨a1, a2, a3, a4⟩
      go_enter Try.func4, Try.ntmps4
      go_wp2_with fail
      refine (awake15 _).mono ?_; rintro e w1 ⟨rfl, m1⟩
      have hx := (Blk.new w _ _).mod m1 (fun h => h)
      have c0 := hx.cell 0
      have c1 := hx.cell 1
      have m01 := ((Mod.refl (fun _ => False) w).alloc _).trans m1
      clear hx m1
      go_wp2_with fail
      refine (strNew x0 x1 64 _ HL.out.1 HL.out.2.1 HL.out.2.2.1 HL.out.2.2.2 (by decide) (by decide)).mono ?_; rintro e w2 ⟨rfl, h2, m2, z2⟩
      have c0' := m2.cell c0 (fun h => h)
      have c1' := m2.cell c1 (fun h => h)
      go_wp2_with fail
      have HIN : Hid (1 ≤ id ∧ id ≤ 65536 ∧ 0 ≤ n ∧ n ≤ 100 ∧ 2 ≤ x0) := ⟨b1, b2, b3, b4, b5⟩
      have hB1 := m01.size
      have m02 := m01.trans m2
      obtain ⟨B, hB⟩ : ∃ B, B = w1.heap.size := ⟨_, rfl⟩
      rw [← hB] at h2 hB1 ⊢
      clear b1 b2 b3 b4 b5 a1 a2 a3 a4 c0 c1 c0' c1' z2 m2 hB
      go_loopw [10] (fun v wr => ∃ (k : Nat) (ks : List (Int × Rc)), v = .int .i64 k ∧ (k : Int) ≤ n ∧ Hid (ks = [] ∧ k = 0 ∨ ks = [(id, ⟨0, 0, 10 * k⟩)]) ∧ Hid (BK wr (B + 1) B x0 x1 64 ks) ∧ Mod (fun _ => False) w wr) (fun v _ => n.toNat - (intOf v).toNat)
      case atStart => exact ⟨0, [], rfl, HIN.out.2.2.1, .inl ⟨rfl, rfl⟩, h2, m02⟩
      case round =>
        obtain ⟨k, ks, rfl, hk, hks, hb, hm⟩ := hrel
        have hin := HIN.out
        have hI : I64 id := i64_of (by omega) (by omega)
        have HI := Lib.hid hI
        have hk1 : ks = [] ∨ ∃ r, ks = [(id, r)] := by
          rcases hks.out with h | h
          · exact .inl h.1
          · exact .inr ⟨_, h⟩
        have hrd : rd ks id = ⟨0, 0, 10 * k⟩ := by
          rcases hks.out with ⟨h, h0⟩ | h
          · subst h; subst h0; rfl
          · rw [h, rd1]
        by_cases hlt : (k : Int) < n
        · have hk9 : (k : Int) ≤ 100 := by omega
          have K1 := Lib.hid hk1
          have RD := Lib.hid hrd
          have HLEN := Lib.hid (len1 hk1)
          have hp : ((putL ks id ⟨1, 0, 10 * k + 10⟩).length : Int) ≤ 64 := by rw [put1 hk1]; simp
          have HP := Lib.hid hp
          clear hin hI hk1 hrd hp
          go_wp2_with fail
          refine (strStrikeA id k 10 0 (10 * k) _ _ x0 x1 64 ks _ HIN.out.1 HIN.out.2.1 (by omega) (by omega) (by decide) (by decide) hb.out RD.out (by decide) (by decide) (by omega) (by omega) (by have := HL.out; omega) (by have := HL.out; omega) HLEN.out ⟨1, 0, 10 * k + 10⟩ (by have := HIN.out; rw [if_neg (by omega)]; rfl) HP.out).mono ?_; rintro e w3 ⟨rfl, h3, m3⟩
          rw [put1 K1.out] at h3
          have H3 := Lib.hid h3
          clear h3
          go_wp2_with fail
          refine (strGood1 id _ _ x0 x1 64 _ _ HI.out H3.out _ (lk1 _ _) rfl (show (0 : Int) ≤ 1 by decide) (show (1 : Int) ≤ 1000 by decide) (len1 (.inr ⟨_, rfl⟩))).mono ?_; rintro e w4 ⟨rfl, h4, m4⟩
          rw [put1 (.inr ⟨_, rfl⟩)] at h4
          have H4 := Lib.hid h4
          clear h4
          go_wp2_with fail
          refine (strGood1 id _ _ x0 x1 64 _ _ HI.out H4.out _ (lk1 _ _) rfl (show (0 : Int) ≤ max (1 - 1) 0 by decide) (show max (1 - 1) 0 ≤ (1000 : Int) by decide) (len1 (.inr ⟨_, rfl⟩))).mono ?_; rintro e w5 ⟨rfl, h5, m5⟩
          rw [put1 (.inr ⟨_, rfl⟩)] at h5
          have H5 := Lib.hid h5
          clear h5
          have H5' : Hid (BK w5 (B + 1) B x0 x1 64 [(id, ⟨0, 0, 10 * k + 10⟩)]) := H5.out
          have m35 : Mod (fun _ => False) w w5 := ((hm.new m3 (by intro i hi; omega)).new m4 (by intro i hi; omega)).new m5 (by intro i hi; omega)
          clear H5 H4 H3 m3 m4 m5
          go_wp2_with fail
          refine (strStrikes _ _ _ _ _ _ _ _ HI.out H5'.out).mono ?_; rw [rd1]; rintro e w' ⟨rfl, rfl⟩
          go_wp2_with fail
          refine (strWasted _ _ _ _ _ _ _ _ HI.out H5'.out).mono ?_; rw [rd1]; rintro e w' ⟨rfl, rfl⟩
          have h10 : (10 * (k : Int) + 10 = 10 * ((k : Int) + 1)) = True := by simp; omega
          go_wp2_with fail
          exact ⟨⟨k + 1, _, by go_num, by omega, .inr (by rw [show (10 * ((k + 1 : Nat) : Int)) = 10 * (k : Int) + 10 by omega]), H5', m35⟩, by simp [intOf]; omega⟩
        · have hkn : (k : Int) = n := by omega
          have hbn : bnd ks id n = false := by unfold bnd; rw [hrd]; rfl
          have HB := hb.out
          clear hin hk1 hrd hI hk
          go_wp2_with fail
          refine (strBanned _ _ _ _ _ _ _ _ _ HI.out HB).mono ?_; rw [hbn]; rintro e w' ⟨rfl, rfl⟩
          go_wp2_with fail
          go_ret
          exact ⟨rfl, hm⟩
    · have HL : Hid (1 ≤ x0 ∧ x0 ≤ 100 ∧ 1 ≤ x1 ∧ x1 ≤ 1048576) := ⟨a1, a2, a3, a4⟩
      go_enter Try.func4, Try.ntmps4
      go_wp2_with fail
      refine (awake15 _).mono ?_; rintro e w1 ⟨rfl, m1⟩
      have hx := (Blk.new w _ _).mod m1 (fun h => h)
      have c0 := hx.cell 0
      have c1 := hx.cell 1
      have m01 := ((Mod.refl (fun _ => False) w).alloc _).trans m1
      clear hx m1
      go_wp2_with fail
      refine (strNew x0 x1 64 _ HL.out.1 HL.out.2.1 HL.out.2.2.1 HL.out.2.2.2 (by decide) (by decide)).mono ?_; rintro e w2 ⟨rfl, h2, m2, z2⟩
      have c0' := m2.cell c0 (fun h => h)
      have c1' := m2.cell c1 (fun h => h)
      have hbad : (decide (id < 1) || decide (65536 < id) || decide (n < 0) || decide (100 < n) || decide (x0 < 2)) = true := by
        simp only [Bool.or_eq_true, decide_eq_true_eq]; omega
      go_wp2_with fail
      all_goals first | (go_ret; exact ⟨rfl, m01.trans m2⟩) | (exfalso; omega)
  · go_enter Try.func4, Try.ntmps4
    go_wp2_with fail
    refine (awake15 _).mono ?_; rintro e w1 ⟨rfl, m1⟩
    have hx := (Blk.new w _ _).mod m1 (fun h => h)
    have c0 := hx.cell 0
    have c1 := hx.cell 1
    have m01 := ((Mod.refl (fun _ => False) w).alloc _).trans m1
    clear hx m1
    go_wp2_with fail
    refine (strNewBad x0 x1 64 _ (by omega)).mono ?_; rintro e w' ⟨rfl, rfl⟩
    go_wp2_with fail
    go_ret
    exact ⟨rfl, m01⟩
end Go.Proofs.Ytiabjaaamgjlnaa
