/- The reference of member: Hear of another one; no condition. -/
import Derived.Test.YtagiodagbfahpaaSmD
namespace Go.Proofs.Ytagiodagbfahpaa
open Go Go.RowKit

set_option maxRecDepth 100000 in
set_option maxHeartbeats 4000000 in
theorem refVHearNo (id s u tb : Int) (now : Int) (b base : Nat) (S : Int × Rc) (most : Int) (ks : List (Int × Rc)) (w : World) (h : RW w b base S most ks) (hr : Rising ks) (hlen : ks.length ≤ 999) (hw : RightP (id, ⟨s, u, tb⟩) ∧ 0 ≤ now ∧ now ≤ 1099511627776) (hs : id ≠ S.1) (ht : takes ks (id, ⟨s, u, tb⟩) = false) :
    Calls Try.prog 35 #[.pointer (some ⟨b, 0, none⟩), .agg #[.int .i64 id, .int .i64 s, .int .i64 u, .int .i64 tb], .int .i64 now] w fun e w' => e = .returned (.tuple #[.bool false, .int .i64 0]) ∧ Mod (fun _ => False) w w' := by
  have HW := Lib.hid hw
  have hid : (id == S.1) = false := by simpa using hs
  have HT := Lib.hid ht
  have HRI := Lib.hid hr
  have HLN := Lib.hid hlen
  clear hw hs ht hr hlen
  have m1 := (Mod.refl (fun _ => False) w).alloc (.cells #[.int .i64 id, .int .i64 s, .int .i64 u, .int .i64 tb] TMb)
  have B1 := Lib.hid (Blk.new w #[.int .i64 id, .int .i64 s, .int .i64 u, .int .i64 tb] TMb)
  have M1 := Lib.hid m1
  have H1 := Lib.hid (h.new m1)
  have HA := Lib.hid (h.av m1 (Nat.le_refl _))
  have HR := Lib.hid (refRight (id, ⟨s, u, tb⟩))
  unfold rcv at HR
  dsimp only at HR
  have H := Lib.hid h
  clear h m1
  obtain ⟨B, hB⟩ : ∃ B, B = w.heap.size := ⟨_, rfl⟩
  have hbw : b < w.heap.size := H.out.blt
  have hbB : b < B := by omega
  clear hbw
  go_enter Try.func35, Try.ntmps35
  go_upto_region 1 with fail
  generalize w.alloc (.cells #[.int .i64 id, .int .i64 s, .int .i64 u, .int .i64 tb] TMb) = w1 at *
  rw [← hB] at B1 HA ⊢
  have HB := Lib.hid hB
  clear hB
  have x0 := B1.out.cell 0; have x1 := B1.out.cell 1; have x2 := B1.out.cell 2; have x3 := B1.out.cell 3
  go_wp2_with fail
  refine (HR.out w1).mono ?_; rintro e w2 ⟨rfl, m2⟩
  have B2 := Lib.hid (B1.out.mod m2 (fun h => h))
  have M2 := Lib.hid (M1.out.trans m2)
  have H2 := Lib.hid (H1.out.new m2)
  have HA2 := Lib.hid (HA.out.new m2)
  clear x0 x1 x2 x3 m2 B1 M1 H1 HA HR
  rw [show decide (RightP (id, ⟨s, u, tb⟩)) = true from decide_eq_true HW.out.1]
  go_wp2_with fail
  refine (refMoment _ _).mono ?_; rw [in_yes HW.out.2]; rintro e w' ⟨rfl, rfl⟩
  have x0 := B2.out.cell 0; have x1 := B2.out.cell 1; have x2 := B2.out.cell 2; have x3 := B2.out.cell 3
  have y0 : w2.cell? ⟨b, 0, none⟩ = some (.int .i64 S.1) := H2.out.hd 0
  have y1 : w2.cell? ⟨b, 1, none⟩ = some (.int .i64 S.2.s) := H2.out.hd 1
  have y2 : w2.cell? ⟨b, 2, none⟩ = some (.int .i64 S.2.u) := H2.out.hd 2
  have y3 : w2.cell? ⟨b, 3, none⟩ = some (.int .i64 S.2.b) := H2.out.hd 3
  go_upto_region 5 with fail
  go_quiet (fail)
  have B3 := Lib.hid (B2.out.mod ((Mod.refl (fun _ => False) w2).drewN nq) (fun h => h))
  have M3 := Lib.hid (M2.out.drewN nq)
  have H3 := Lib.hid (H2.out.drewN nq)
  have HA3 := Lib.hid (HA2.out.new ((Mod.refl (fun _ => False) w2).drewN nq))
  clear x0 x1 x2 x3 y0 y1 y2 y3 B2 M2 H2 HA2
  generalize w2.drewN nq = w3 at *
  have x0 := B3.out.cell 0; have x1 := B3.out.cell 1; have x2 := B3.out.cell 2; have x3 := B3.out.cell 3
  go_wp2_with fail
  refine (refVFind id _ _ _ _ _ _ H3.out (by have := HLN.out; omega)).mono ?_; rintro e w' ⟨⟨v, rfl, hv⟩, rfl⟩
  obtain ⟨a, cap, _, c3, _, he, _, _, _⟩ := H3.out.at
  rcases hv with ⟨rfl, hn⟩ | ⟨i, r, rfl, hi⟩
  · have hu3 : (u == 3) = true := by have := HT.out; unfold takes at this; dsimp only at this; rw [hn] at this; simpa using this
    clear hn
    go_upto_region 11 with fail
    go_quiet (fail)
    go_wp2_with fail
    go_ret2
    exact ⟨rfl, M3.out.drewN _⟩
  · have hl := lk_of_mem HRI.out (List.mem_of_getElem? hi)
    have hnp : decide (newP ⟨s, u, tb⟩ r) = false := by have := HT.out; unfold takes at this; dsimp only at this; rw [hl] at this; exact this
    obtain ⟨X, rfl, p0, p1, p2, p3⟩ := recEl he.out (Nat.le_refl _) hi
    have hil : (i : Int) < ks.length := by have := (List.getElem?_eq_some_iff.1 hi).1; omega
    have hil2 : i < ks.length := by omega
    have hi0 : (0 : Int) ≤ (i : Int) := by omega
    have hi1 : decide ((i : Int) < 0) = false := by simp
    have HN := Lib.hid (refNewer (id, ⟨s, u, tb⟩) (id, r))
    unfold rcv at HN
    dsimp only at HN
    rw [hnp] at HN
    clear hl hnp hi
    go_upto_region 11 with fail
    refine wp_region2 [] [] (by kernel_rfl) (by kernel_rfl) ?_
    repeat (first | (refine reg_anyT (by rfl) (fun K hK => ?_); go_simp; refine hK _ _ ?_; clear hK K) | (refine reg_read (by rfl) (fun K hK => ?_); go_simp; refine hK _ _ ?_; clear hK K))
    refine reg_eff (by rfl) (fun rn K hK => ?_); go_simp
    refine (HN.out _).mono ?_; rintro e w' ⟨rfl, m4⟩
    refine hK _ _ ?_; clear hK K
    repeat (first | (refine reg_anyT (by rfl) (fun K hK => ?_); go_simp; refine hK _ _ ?_; clear hK K) | (refine reg_read (by rfl) (fun K hK => ?_); go_simp; refine hK _ _ ?_; clear hK K))
    refine reg_nil (fun nd => ?_)
    have M5 := Lib.hid (M3.out.trans (m4.undrew.drewN nd))
    clear m4
    go_wp2_with fail
    go_ret2
    exact ⟨rfl, M5.out⟩
end Go.Proofs.Ytagiodagbfahpaa
