/- The reference of member: Hear, whole; no condition. -/
import Derived.Test.YtagiodagbfahpaaSmE
namespace Go.Proofs.Ytagiodagbfahpaa
open Go Go.RowKit

set_option maxRecDepth 100000 in
set_option maxHeartbeats 4000000 in
theorem refVHearYes (id s u tb : Int) (now : Int) (b base : Nat) (S : Int × Rc) (most : Int) (ks : List (Int × Rc)) (w : World) (h : RW w b base S most ks) (hr : Rising ks) (hlen : ks.length ≤ 999) (hbase : base ≤ w.heap.size) (hw : RightP (id, ⟨s, u, tb⟩) ∧ 0 ≤ now ∧ now ≤ 1099511627776) (hs : id ≠ S.1) (ht : takes ks (id, ⟨s, u, tb⟩) = true) :
    Calls Try.prog 35 #[.pointer (some ⟨b, 0, none⟩), .agg #[.int .i64 id, .int .i64 s, .int .i64 u, .int .i64 tb], .int .i64 now] w fun e w' => e = .returned (.tuple #[.bool true, .int .i64 0]) ∧ RW w' b base S most (hearL most ks (id, ⟨s, u, tb⟩) now) ∧ Mod (· = b) w w' := by
  have HW := Lib.hid hw
  have hid : (id == S.1) = false := by simpa using hs
  have HT := Lib.hid ht
  have HRI := Lib.hid hr
  have HLN := Lib.hid hlen
  have HBA := Lib.hid hbase
  obtain ⟨kx, hkx⟩ : ∃ kx, kx = hearL most ks (id, ⟨s, u, tb⟩) now := ⟨_, rfl⟩
  rw [← hkx]
  have HCX := Lib.hid (show kx = cutX most (putL ks id ⟨s, u, now⟩) from hkx)
  clear hw hs ht hr hlen hkx hbase
  have m1 := (Mod.refl (fun _ => False) w).alloc (.cells #[.int .i64 id, .int .i64 s, .int .i64 u, .int .i64 tb] TMb)
  have B1 := Lib.hid (Blk.new w #[.int .i64 id, .int .i64 s, .int .i64 u, .int .i64 tb] TMb)
  have M1 := Lib.hid m1
  have H1 := Lib.hid (h.new m1)
  have HA := Lib.hid (h.av m1 (Nat.le_refl _))
  have HR := Lib.hid (refRight (id, ⟨s, u, tb⟩))
  unfold rcv at HR
  dsimp only at HR
  have H := Lib.hid h
  clear h m1
  obtain ⟨B, hB⟩ : ∃ B, B = w.heap.size := ⟨_, rfl⟩
  have hbw : b < w.heap.size := H.out.blt
  have hbB : b < B := by omega
  clear hbw
  go_enter Try.func35, Try.ntmps35
  go_upto_region 1 with fail
  generalize w.alloc (.cells #[.int .i64 id, .int .i64 s, .int .i64 u, .int .i64 tb] TMb) = w1 at *
  rw [← hB] at B1 HA ⊢
  have HB := Lib.hid hB
  clear hB
  have x0 := B1.out.cell 0; have x1 := B1.out.cell 1; have x2 := B1.out.cell 2; have x3 := B1.out.cell 3
  go_wp2_with fail
  refine (HR.out w1).mono ?_; rintro e w2 ⟨rfl, m2⟩
  have B2 := Lib.hid (B1.out.mod m2 (fun h => h))
  have M2 := Lib.hid (M1.out.trans m2)
  have H2 := Lib.hid (H1.out.new m2)
  have HA2 := Lib.hid (HA.out.new m2)
  clear x0 x1 x2 x3 m2 B1 M1 H1 HA HR
  rw [show decide (RightP (id, ⟨s, u, tb⟩)) = true from decide_eq_true HW.out.1]
  go_wp2_with fail
  refine (refMoment _ _).mono ?_; rw [in_yes HW.out.2]; rintro e w' ⟨rfl, rfl⟩
  have x0 := B2.out.cell 0; have x1 := B2.out.cell 1; have x2 := B2.out.cell 2; have x3 := B2.out.cell 3
  have y0 : w2.cell? ⟨b, 0, none⟩ = some (.int .i64 S.1) := H2.out.hd 0
  have y1 : w2.cell? ⟨b, 1, none⟩ = some (.int .i64 S.2.s) := H2.out.hd 1
  have y2 : w2.cell? ⟨b, 2, none⟩ = some (.int .i64 S.2.u) := H2.out.hd 2
  have y3 : w2.cell? ⟨b, 3, none⟩ = some (.int .i64 S.2.b) := H2.out.hd 3
  go_upto_region 5 with fail
  go_quiet (fail)
  have B3 := Lib.hid (B2.out.mod ((Mod.refl (fun _ => False) w2).drewN nq) (fun h => h))
  have M3 := Lib.hid (M2.out.drewN nq)
  have H3 := Lib.hid (H2.out.drewN nq)
  have HA3 := Lib.hid (HA2.out.new ((Mod.refl (fun _ => False) w2).drewN nq))
  clear x0 x1 x2 x3 y0 y1 y2 y3 B2 M2 H2 HA2
  generalize w2.drewN nq = w3 at *
  have x0 := B3.out.cell 0; have x1 := B3.out.cell 1; have x2 := B3.out.cell 2; have x3 := B3.out.cell 3
  go_wp2_with fail
  refine (refVFind id _ _ _ _ _ _ H3.out (by have := HLN.out; omega)).mono ?_; rintro e w' ⟨⟨v, rfl, hv⟩, rfl⟩
  obtain ⟨a, cap, _, c3, _, he, _, _, _⟩ := H3.out.at
  rcases hv with ⟨rfl, hn⟩ | ⟨i, r, rfl, hi⟩
  · have hu3 : (u == 3) = false := by have := HT.out; unfold takes at this; dsimp only at this; rw [hn] at this; simpa using this
    clear hn
    go_upto_region 11 with fail
    go_quiet (fail)
    have B5 := Lib.hid (B3.out.mod ((Mod.refl (fun _ => False) w3).drewN nq) (fun h => h))
    have M5 := Lib.hid (M3.out.drewN nq)
    have HA5 := Lib.hid (HA3.out.new ((Mod.refl (fun _ => False) w3).drewN nq))
    have p0 := True.intro; have p1 := True.intro; have p2 := True.intro; have p3 := True.intro
    clear B3 M3 HA3 H3
    generalize w3.drewN nq = w5 at *
    clear c3 he p0 p1 p2 p3 x0 x1 x2 x3
    have x3 := B5.out.cell 3
    have f3 := B5.out.frozen 3
    go_upto_region 14 with fail
    have X6 := Lib.hid (show Blk (w5.setCell ⟨B, 3, none⟩ (.int .i64 now)) B #[.int .i64 id, .int .i64 s, .int .i64 u, .int .i64 now] TMb from B5.out.set 3 _)
    have R6 := Lib.hid (HA5.out.set ((Mod.refl (· = B) w5).set1 3 (.int .i64 now)) (by omega)).rb
    have M6 := Lib.hid (M5.out.setCell (p := ⟨B, 3, none⟩) (.inr (Nat.le_of_eq HB.out.symm)) (.int .i64 now))
    clear x3 f3 B5 HA5 M5
    generalize w5.setCell ⟨B, 3, none⟩ (.int .i64 now) = w6 at *
    have x0 := X6.out.cell 0; have x1 := X6.out.cell 1; have x2 := X6.out.cell 2; have x3 := X6.out.cell 3
    have HP := Lib.hid (refVPut id ⟨s, u, now⟩ b base S most ks w6 R6.out HRI.out (by have := M6.out.size; have := HBA.out; omega) HLN.out)
    have HK2 := Lib.hid (rising_put HRI.out id ⟨s, u, now⟩)
    have HL2 := Lib.hid (len_put ks id ⟨s, u, now⟩)
    obtain ⟨q0, tl, hqt⟩ : ∃ q0 tl, putL ks id ⟨s, u, now⟩ = q0 :: tl := List.exists_cons_of_ne_nil (put_ne _ _ _)
    rw [hqt] at HP HK2 HL2 HCX
    have htl : tl.length ≤ 999 := by have := HL2.out; have := HLN.out; rw [List.length_cons] at *; omega
    clear hqt
    go_wp2_with fail
    refine HP.out.mono ?_; rintro e w7 ⟨rfl, r7, m7⟩
    have R7 := Lib.hid r7
    have M7 := Lib.hid ((M6.out.mono (S' := (· = b)) (fun _ _ h => h.elim)).trans m7)
    obtain ⟨a7, cap7, c4, c5, _, _, _, _, _⟩ := r7.at
    clear r7 m7 x0 x1 x2 x3 HP
    rw [List.length_cons] at c5
    by_cases hml : most < ((tl.length + 1 : Nat) : Int)
    · go_upto_region 15 with fail
      go_quiet (fail)
      have R8 := Lib.hid (R7.out.drewN nq)
      have M8 := Lib.hid (M7.out.drewN nq)
      clear c4 c5
      generalize w7.drewN nq = w8 at *
      have HF := Lib.hid (refVFirst b base S most q0 tl w8 R8.out (by omega))
      have HCC : Hid (cutX most (q0 :: tl) = delL (q0 :: tl) (lowF q0 tl).1) := by show _ = _; unfold cutX; rw [if_pos (by rw [List.length_cons]; exact hml)]; rfl
      have hml' : decide (most < (tl.length : Int) + 1) = true := by simp at hml ⊢; exact hml
      go_wp2_with fail
      refine HF.out.mono ?_; rintro e w9 ⟨⟨p, rfl, hp⟩, m9⟩
      have R9 := Lib.hid (R8.out.new m9)
      have M9 := Lib.hid (M8.out.trans (m9.mono (fun _ _ h => h.elim)))
      have HD := Lib.hid (del_at HK2.out hp)
      have HCU := Lib.hid (refVCut p b base S most (q0 :: tl) w9 R9.out (by rw [List.length_cons]; omega) (List.getElem?_eq_some_iff.1 hp).1)
      clear hp m9
      go_wp2_with fail
      refine HCU.out.mono ?_; rintro e w10 ⟨rfl, r10, m10⟩
      have M10 := Lib.hid (M9.out.trans m10)
      have R10 := Lib.hid (r10.base H.out.lt (by have := M9.out.size; have := HBA.out; omega))
      clear r10 m10
      go_wp2_with fail
      go_ret2
      refine ⟨rfl, ?_, M10.out⟩
      show RW _ _ _ _ _ _
      rw [HCX.out, HCC.out, HD.out]
      exact R10.out
    · have HCC : Hid (cutX most (q0 :: tl) = q0 :: tl) := by show _ = _; unfold cutX; rw [if_neg (by rw [List.length_cons]; exact hml)]
      have hml' : decide (most < (tl.length : Int) + 1) = false := by simp at hml ⊢; omega
      have hml2 : decide (most < ((tl.length + 1 : Nat) : Int)) = false := by simpa using hml
      go_upto_region 15 with fail
      go_quiet (fail)
      go_wp2_with fail
      go_ret2
      refine ⟨rfl, ?_, M7.out.drewN _⟩
      show RW _ _ _ _ _ _
      rw [HCX.out, HCC.out]
      exact R7.out.drewN _
  · have hl := lk_of_mem HRI.out (List.mem_of_getElem? hi)
    have hnp : decide (newP ⟨s, u, tb⟩ r) = true := by have := HT.out; unfold takes at this; dsimp only at this; rw [hl] at this; exact this
    obtain ⟨X, rfl, p0, p1, p2, p3⟩ := recEl he.out (Nat.le_refl _) hi
    have hil : (i : Int) < ks.length := by have := (List.getElem?_eq_some_iff.1 hi).1; omega
    have hil2 : i < ks.length := by omega
    have hi0 : (0 : Int) ≤ (i : Int) := by omega
    have hi1 : decide ((i : Int) < 0) = false := by simp
    have HN := Lib.hid (refNewer (id, ⟨s, u, tb⟩) (id, r))
    unfold rcv at HN
    dsimp only at HN
    rw [hnp] at HN
    clear hl hnp hi
    go_upto_region 11 with fail
    refine wp_region2 [] [] (by kernel_rfl) (by kernel_rfl) ?_
    repeat (first | (refine reg_anyT (by rfl) (fun K hK => ?_); go_simp; refine hK _ _ ?_; clear hK K) | (refine reg_read (by rfl) (fun K hK => ?_); go_simp; refine hK _ _ ?_; clear hK K))
    refine reg_eff (by rfl) (fun rn K hK => ?_); go_simp
    refine (HN.out _).mono ?_; rintro e w' ⟨rfl, m4⟩
    refine hK _ _ ?_; clear hK K
    repeat (first | (refine reg_anyT (by rfl) (fun K hK => ?_); go_simp; refine hK _ _ ?_; clear hK K) | (refine reg_read (by rfl) (fun K hK => ?_); go_simp; refine hK _ _ ?_; clear hK K))
    refine reg_nil (fun nd => ?_)
    have m5 := m4.undrew.drewN nd
    have B5 := Lib.hid (B3.out.mod m5 (fun h => h))
    have M5 := Lib.hid (M3.out.trans m5)
    have HA5 := Lib.hid (HA3.out.new m5)
    clear m4 m5 B3 M3 HA3 H3
    generalize World.drewN w' nd = w5 at *
    clear c3 he p0 p1 p2 p3 x0 x1 x2 x3
    have x3 := B5.out.cell 3
    have f3 := B5.out.frozen 3
    go_upto_region 14 with fail
    have X6 := Lib.hid (show Blk (w5.setCell ⟨B, 3, none⟩ (.int .i64 now)) B #[.int .i64 id, .int .i64 s, .int .i64 u, .int .i64 now] TMb from B5.out.set 3 _)
    have R6 := Lib.hid (HA5.out.set ((Mod.refl (· = B) w5).set1 3 (.int .i64 now)) (by omega)).rb
    have M6 := Lib.hid (M5.out.setCell (p := ⟨B, 3, none⟩) (.inr (Nat.le_of_eq HB.out.symm)) (.int .i64 now))
    clear x3 f3 B5 HA5 M5
    generalize w5.setCell ⟨B, 3, none⟩ (.int .i64 now) = w6 at *
    have x0 := X6.out.cell 0; have x1 := X6.out.cell 1; have x2 := X6.out.cell 2; have x3 := X6.out.cell 3
    have HP := Lib.hid (refVPut id ⟨s, u, now⟩ b base S most ks w6 R6.out HRI.out (by have := M6.out.size; have := HBA.out; omega) HLN.out)
    have HK2 := Lib.hid (rising_put HRI.out id ⟨s, u, now⟩)
    have HL2 := Lib.hid (len_put ks id ⟨s, u, now⟩)
    obtain ⟨q0, tl, hqt⟩ : ∃ q0 tl, putL ks id ⟨s, u, now⟩ = q0 :: tl := List.exists_cons_of_ne_nil (put_ne _ _ _)
    rw [hqt] at HP HK2 HL2 HCX
    have htl : tl.length ≤ 999 := by have := HL2.out; have := HLN.out; rw [List.length_cons] at *; omega
    clear hqt
    go_wp2_with fail
    refine HP.out.mono ?_; rintro e w7 ⟨rfl, r7, m7⟩
    have R7 := Lib.hid r7
    have M7 := Lib.hid ((M6.out.mono (S' := (· = b)) (fun _ _ h => h.elim)).trans m7)
    obtain ⟨a7, cap7, c4, c5, _, _, _, _, _⟩ := r7.at
    clear r7 m7 x0 x1 x2 x3 HP
    rw [List.length_cons] at c5
    by_cases hml : most < ((tl.length + 1 : Nat) : Int)
    · go_upto_region 15 with fail
      go_quiet (fail)
      have R8 := Lib.hid (R7.out.drewN nq)
      have M8 := Lib.hid (M7.out.drewN nq)
      clear c4 c5
      generalize w7.drewN nq = w8 at *
      have HF := Lib.hid (refVFirst b base S most q0 tl w8 R8.out (by omega))
      have HCC : Hid (cutX most (q0 :: tl) = delL (q0 :: tl) (lowF q0 tl).1) := by show _ = _; unfold cutX; rw [if_pos (by rw [List.length_cons]; exact hml)]; rfl
      have hml' : decide (most < (tl.length : Int) + 1) = true := by simp at hml ⊢; exact hml
      go_wp2_with fail
      refine HF.out.mono ?_; rintro e w9 ⟨⟨p, rfl, hp⟩, m9⟩
      have R9 := Lib.hid (R8.out.new m9)
      have M9 := Lib.hid (M8.out.trans (m9.mono (fun _ _ h => h.elim)))
      have HD := Lib.hid (del_at HK2.out hp)
      have HCU := Lib.hid (refVCut p b base S most (q0 :: tl) w9 R9.out (by rw [List.length_cons]; omega) (List.getElem?_eq_some_iff.1 hp).1)
      clear hp m9
      go_wp2_with fail
      refine HCU.out.mono ?_; rintro e w10 ⟨rfl, r10, m10⟩
      have M10 := Lib.hid (M9.out.trans m10)
      have R10 := Lib.hid (r10.base H.out.lt (by have := M9.out.size; have := HBA.out; omega))
      clear r10 m10
      go_wp2_with fail
      go_ret2
      refine ⟨rfl, ?_, M10.out⟩
      show RW _ _ _ _ _ _
      rw [HCX.out, HCC.out, HD.out]
      exact R10.out
    · have HCC : Hid (cutX most (q0 :: tl) = q0 :: tl) := by show _ = _; unfold cutX; rw [if_neg (by rw [List.length_cons]; exact hml)]
      have hml' : decide (most < (tl.length : Int) + 1) = false := by simp at hml ⊢; omega
      have hml2 : decide (most < ((tl.length + 1 : Nat) : Int)) = false := by simpa using hml
      go_upto_region 15 with fail
      go_quiet (fail)
      go_wp2_with fail
      go_ret2
      refine ⟨rfl, ?_, M7.out.drewN _⟩
      show RW _ _ _ _ _ _
      rw [HCX.out, HCC.out]
      exact R7.out.drewN _

/-- Hear, whole. -/
theorem word_parts {m : Int × Rc} {now : Int} : WordOk m now ↔ RightP m ∧ 0 ≤ now ∧ now ≤ 1099511627776 := by
  unfold WordOk RightP
  omega
theorem refVHear (m : Int × Rc) (now : Int) (b base : Nat) (S : Int × Rc) (most : Int) (ks : List (Int × Rc)) (w : World) (h : RW w b base S most ks) (hok : OkV most ks) (hm : most ≤ 64) (hbase : base ≤ w.heap.size) :
    Calls Try.prog 35 #[.pointer (some ⟨b, 0, none⟩), rcv m.1 m.2, .int .i64 now] w fun e w' => e = .returned (.tuple #[.bool (hearB S ks m now).1, .int .i64 (hearB S ks m now).2]) ∧ RW w' b base (hearSelf S m now) most (hearK S most ks m now) ∧ Mod (· = b) w w' := by
  have hl := hok.len
  obtain ⟨id, ⟨s, u, tb⟩⟩ := m
  by_cases hw : WordOk (id, ⟨s, u, tb⟩) now
  · by_cases hs : id = S.1
    · have e1 : hearB S ks (id, ⟨s, u, tb⟩) now = (decide (newP ⟨s, u, tb⟩ S.2), 0) := by unfold hearB; rw [if_pos hw, if_pos hs]
      have e2 : hearSelf S (id, ⟨s, u, tb⟩) now = hearS S (id, ⟨s, u, tb⟩) := by unfold hearSelf; rw [if_pos ⟨hw, hs⟩]
      have e3 : hearK S most ks (id, ⟨s, u, tb⟩) now = ks := by unfold hearK; rw [if_neg]; exact fun h => h.2.1 hs
      rw [e1, e2, e3]
      exact refVHearSelf id s u tb now b base S most ks w h (word_parts.1 hw) hs
    · have e2 : hearSelf S (id, ⟨s, u, tb⟩) now = S := by unfold hearSelf; rw [if_neg]; exact fun h => hs h.2
      cases ht : takes ks (id, ⟨s, u, tb⟩) with
      | false =>
        have e1 : hearB S ks (id, ⟨s, u, tb⟩) now = (false, 0) := by unfold hearB; rw [if_pos hw, if_neg hs, ht]
        have e3 : hearK S most ks (id, ⟨s, u, tb⟩) now = ks := by unfold hearK; rw [if_neg]; rw [ht]; simp
        rw [e1, e2, e3]
        exact (refVHearNo id s u tb now b base S most ks w h hok.rising (by omega) (word_parts.1 hw) hs ht).mono fun e w' ⟨g1, g3⟩ => ⟨g1, h.new g3, g3.mono fun i _ h => h.elim⟩
      | true =>
        have e1 : hearB S ks (id, ⟨s, u, tb⟩) now = (true, 0) := by unfold hearB; rw [if_pos hw, if_neg hs, ht]
        have e3 : hearK S most ks (id, ⟨s, u, tb⟩) now = hearL most ks (id, ⟨s, u, tb⟩) now := by unfold hearK; rw [if_pos ⟨hw, hs, ht⟩]
        rw [e1, e2, e3]
        exact refVHearYes id s u tb now b base S most ks w h hok.rising (by omega) hbase (word_parts.1 hw) hs ht
  · have e1 : hearB S ks (id, ⟨s, u, tb⟩) now = (false, 1) := by unfold hearB; rw [if_neg hw]
    have e2 : hearSelf S (id, ⟨s, u, tb⟩) now = S := by unfold hearSelf; rw [if_neg]; exact fun h => hw h.1
    have e3 : hearK S most ks (id, ⟨s, u, tb⟩) now = ks := by unfold hearK; rw [if_neg]; exact fun h => hw h.1
    rw [e1, e2, e3]
    exact (refVHearBad id s u tb now b base S most ks w h hw).mono fun e w' ⟨g1, g3⟩ => ⟨g1, h.new g3, g3.mono fun i _ h => h.elim⟩
end Go.Proofs.Ytagiodagbfahpaa
