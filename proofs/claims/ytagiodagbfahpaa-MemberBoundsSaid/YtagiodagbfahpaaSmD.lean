/- The reference of member: Hear; no condition. -/
import Derived.Test.YtagiodagbfahpaaSmC
namespace Go.Proofs.Ytagiodagbfahpaa
open Go Go.RowKit

theorem RW.blt {w : World} {b base : Nat} {S : Int × Rc} {most : Int} {ks : List (Int × Rc)} (h : RW w b base S most ks) : b < w.heap.size := by
  obtain ⟨_, a, cap, h3, _⟩ := h
  exact h3.lt
/-- The cells of itself. -/
theorem RW.hd {w : World} {b base : Nat} {S : Int × Rc} {most : Int} {ks : List (Int × Rc)} (h : RW w b base S most ks) (j : Fin 4) : w.cell? ⟨b, j.1, none⟩ = some (.int .i64 (match j with
  | 0 => S.1
  | 1 => S.2.s
  | 2 => S.2.u
  | 3 => S.2.b)) := by
  obtain ⟨_, a, cap, h3, _⟩ := h
  rw [h3.cell]
  match j with
  | 0 => rfl
  | 1 => rfl
  | 2 => rfl
  | 3 => rfl

theorem RW.inc {w : World} {b base : Nat} {S : Int × Rc} {most : Int} {ks : List (Int × Rc)} (h : RW w b base S most ks) (v : Int) : RW (w.setCell ⟨b, 1, none⟩ (.int .i64 v)) b base (S.1, ⟨v, S.2.u, S.2.b⟩) most ks := by
  obtain ⟨h1, a, cap, h2, h3⟩ := h
  exact ⟨h1, a, cap, h2.set 1 _, owns_modG (S := (· = b)) h3 ((Mod.refl _ w).set1 1 _) (fun i hi e => by omega)⟩

set_option maxRecDepth 100000 in
set_option maxHeartbeats 4000000 in
theorem refVHearBad (id s u tb : Int) (now : Int) (b base : Nat) (S : Int × Rc) (most : Int) (ks : List (Int × Rc)) (w : World) (h : RW w b base S most ks) (hw : ¬ WordOk (id, ⟨s, u, tb⟩) now) :
    Calls Try.prog 35 #[.pointer (some ⟨b, 0, none⟩), .agg #[.int .i64 id, .int .i64 s, .int .i64 u, .int .i64 tb], .int .i64 now] w fun e w' => e = .returned (.tuple #[.bool false, .int .i64 1]) ∧ Mod (fun _ => False) w w' := by
  have HW := Lib.hid hw
  clear hw
  have m1 := (Mod.refl (fun _ => False) w).alloc (.cells #[.int .i64 id, .int .i64 s, .int .i64 u, .int .i64 tb] TMb)
  have B1 := Lib.hid (Blk.new w #[.int .i64 id, .int .i64 s, .int .i64 u, .int .i64 tb] TMb)
  have M1 := Lib.hid m1
  have H1 := Lib.hid (h.new m1)
  have HA := Lib.hid (h.av m1 (Nat.le_refl _))
  have HR := Lib.hid (refRight (id, ⟨s, u, tb⟩))
  unfold rcv at HR
  dsimp only at HR
  have H := Lib.hid h
  clear h m1
  obtain ⟨B, hB⟩ : ∃ B, B = w.heap.size := ⟨_, rfl⟩
  have hbw : b < w.heap.size := H.out.blt
  have hbB : b < B := by omega
  clear hbw
  go_enter Try.func35, Try.ntmps35
  go_upto_region 1 with fail
  generalize w.alloc (.cells #[.int .i64 id, .int .i64 s, .int .i64 u, .int .i64 tb] TMb) = w1 at *
  rw [← hB] at B1 HA ⊢
  have HB := Lib.hid hB
  clear hB
  have x0 := B1.out.cell 0; have x1 := B1.out.cell 1; have x2 := B1.out.cell 2; have x3 := B1.out.cell 3
  go_wp2_with fail
  refine (HR.out w1).mono ?_; rintro e w2 ⟨rfl, m2⟩
  have B2 := Lib.hid (B1.out.mod m2 (fun h => h))
  have M2 := Lib.hid (M1.out.trans m2)
  have H2 := Lib.hid (H1.out.new m2)
  have HA2 := Lib.hid (HA.out.new m2)
  clear x0 x1 x2 x3 m2 B1 M1 H1 HA HR
  by_cases hr : RightP (id, ⟨s, u, tb⟩)
  · have hn : ¬ (0 ≤ now ∧ now ≤ 1099511627776) := fun hn => HW.out (by unfold WordOk RightP at *; omega)
    rw [show decide (RightP (id, ⟨s, u, tb⟩)) = true from decide_eq_true hr]
    have e1 := in_no hn
    clear hr hn
    go_wp2_with fail
    refine (refMoment _ _).mono ?_; rw [e1]; rintro e w' ⟨rfl, rfl⟩
    clear e1
    go_wp2_with fail
    go_ret2
    exact ⟨rfl, M2.out⟩
  · rw [show decide (RightP (id, ⟨s, u, tb⟩)) = false from decide_eq_false hr]
    clear hr
    go_wp2_with fail
    refine (refMoment _ _).mono ?_; rintro e w' ⟨rfl, rfl⟩
    go_wp2_with fail
    go_ret2
    exact ⟨rfl, M2.out⟩

set_option maxRecDepth 100000 in
set_option maxHeartbeats 4000000 in
theorem refVHearSelf (id s u tb : Int) (now : Int) (b base : Nat) (S : Int × Rc) (most : Int) (ks : List (Int × Rc)) (w : World) (h : RW w b base S most ks) (hw : RightP (id, ⟨s, u, tb⟩) ∧ 0 ≤ now ∧ now ≤ 1099511627776) (hs : id = S.1) :
    Calls Try.prog 35 #[.pointer (some ⟨b, 0, none⟩), .agg #[.int .i64 id, .int .i64 s, .int .i64 u, .int .i64 tb], .int .i64 now] w fun e w' => e = .returned (.tuple #[.bool (decide (newP ⟨s, u, tb⟩ S.2)), .int .i64 0]) ∧ RW w' b base (hearS S (id, ⟨s, u, tb⟩)) most ks ∧ Mod (· = b) w w' := by
  have HW := Lib.hid hw
  have HS := Lib.hid hs
  clear hw hs
  have hid : (id == S.1) = true := by simpa using HS.out
  obtain ⟨L, hL⟩ : ∃ L, L = decide (newP ⟨s, u, tb⟩ S.2) := ⟨_, rfl⟩
  have HN := Lib.hid (refNewer (id, ⟨s, u, tb⟩) S)
  unfold rcv at HN
  dsimp only at HN
  rw [← hL] at HN ⊢
  have HL := Lib.hid hL
  clear hL
  have m1 := (Mod.refl (fun _ => False) w).alloc (.cells #[.int .i64 id, .int .i64 s, .int .i64 u, .int .i64 tb] TMb)
  have B1 := Lib.hid (Blk.new w #[.int .i64 id, .int .i64 s, .int .i64 u, .int .i64 tb] TMb)
  have M1 := Lib.hid m1
  have H1 := Lib.hid (h.new m1)
  have HA := Lib.hid (h.av m1 (Nat.le_refl _))
  have HR := Lib.hid (refRight (id, ⟨s, u, tb⟩))
  unfold rcv at HR
  dsimp only at HR
  have H := Lib.hid h
  clear h m1
  obtain ⟨B, hB⟩ : ∃ B, B = w.heap.size := ⟨_, rfl⟩
  have hbw : b < w.heap.size := H.out.blt
  have hbB : b < B := by omega
  clear hbw
  go_enter Try.func35, Try.ntmps35
  go_upto_region 1 with fail
  generalize w.alloc (.cells #[.int .i64 id, .int .i64 s, .int .i64 u, .int .i64 tb] TMb) = w1 at *
  rw [← hB] at B1 HA ⊢
  have HB := Lib.hid hB
  clear hB
  have x0 := B1.out.cell 0; have x1 := B1.out.cell 1; have x2 := B1.out.cell 2; have x3 := B1.out.cell 3
  go_wp2_with fail
  refine (HR.out w1).mono ?_; rintro e w2 ⟨rfl, m2⟩
  have B2 := Lib.hid (B1.out.mod m2 (fun h => h))
  have M2 := Lib.hid (M1.out.trans m2)
  have H2 := Lib.hid (H1.out.new m2)
  have HA2 := Lib.hid (HA.out.new m2)
  clear x0 x1 x2 x3 m2 B1 M1 H1 HA HR
  rw [show decide (RightP (id, ⟨s, u, tb⟩)) = true from decide_eq_true HW.out.1]
  go_wp2_with fail
  refine (refMoment _ _).mono ?_; rw [in_yes HW.out.2]; rintro e w' ⟨rfl, rfl⟩
  have x0 := B2.out.cell 0; have x1 := B2.out.cell 1; have x2 := B2.out.cell 2; have x3 := B2.out.cell 3
  have y0 : w2.cell? ⟨b, 0, none⟩ = some (.int .i64 S.1) := H2.out.hd 0
  have y1 : w2.cell? ⟨b, 1, none⟩ = some (.int .i64 S.2.s) := H2.out.hd 1
  have y2 : w2.cell? ⟨b, 2, none⟩ = some (.int .i64 S.2.u) := H2.out.hd 2
  have y3 : w2.cell? ⟨b, 3, none⟩ = some (.int .i64 S.2.b) := H2.out.hd 3
  go_upto_region 5 with fail
  go_quiet (fail)
  have B3 := Lib.hid (B2.out.mod ((Mod.refl (fun _ => False) w2).drewN nq) (fun h => h))
  have M3 := Lib.hid (M2.out.drewN nq)
  have H3 := Lib.hid (H2.out.drewN nq)
  have HA3 := Lib.hid (HA2.out.new ((Mod.refl (fun _ => False) w2).drewN nq))
  clear x0 x1 x2 x3 y0 y1 y2 y3 B2 M2 H2 HA2
  generalize w2.drewN nq = w3 at *
  have x0 := B3.out.cell 0; have x1 := B3.out.cell 1; have x2 := B3.out.cell 2; have x3 := B3.out.cell 3
  have y0 : w3.cell? ⟨b, 0, none⟩ = some (.int .i64 S.1) := H3.out.hd 0
  have y1 : w3.cell? ⟨b, 1, none⟩ = some (.int .i64 S.2.s) := H3.out.hd 1
  have y2 : w3.cell? ⟨b, 2, none⟩ = some (.int .i64 S.2.u) := H3.out.hd 2
  have y3 : w3.cell? ⟨b, 3, none⟩ = some (.int .i64 S.2.b) := H3.out.hd 3
  go_upto_region 6 with fail
  refine wp_region2 [] [] (by kernel_rfl) (by kernel_rfl) ?_
  repeat (first | (refine reg_anyT (by rfl) (fun K hK => ?_); go_simp; refine hK _ _ ?_; clear hK K) | (refine reg_read (by rfl) (fun K hK => ?_); go_simp; refine hK _ _ ?_; clear hK K))
  refine reg_eff (by rfl) (fun rn K hK => ?_); go_simp
  refine (HN.out _).mono ?_; rintro e w' ⟨rfl, m4⟩
  refine hK _ _ ?_; clear hK K
  repeat (first | (refine reg_anyT (by rfl) (fun K hK => ?_); go_simp; refine hK _ _ ?_; clear hK K) | (refine reg_read (by rfl) (fun K hK => ?_); go_simp; refine hK _ _ ?_; clear hK K))
  refine reg_nil (fun nd => ?_)
  have m5 := m4.undrew.drewN nd
  have M5 := Lib.hid (M3.out.trans m5)
  have H5 := Lib.hid (H3.out.new m5)
  have B5 := Lib.hid (B3.out.mod m5 (fun h => h))
  clear x0 x1 x2 x3 y0 y1 y2 y3 m4 m5
  generalize World.drewN w' nd = w5 at *
  have x1 := B5.out.cell 1
  have y1 : w5.cell? ⟨b, 1, none⟩ = some (.int .i64 S.2.s) := H5.out.hd 1
  obtain rfl | rfl : L = true ∨ L = false := by cases L <;> simp
  · have HNP := Lib.hid (of_decide_eq_true HL.out.symm)
    have hws : 0 ≤ s ∧ s ≤ 1073741824 := by have := HW.out.1; unfold RightP at this; simp only at this; omega
    have hf1 : w5.frozen? ⟨b, 1, none⟩ = false := by
      obtain ⟨_, a, cap, h3, _⟩ := H5.out
      exact h3.frozen 1
    have hw1 : IntKind.i64.wrap (s + 1) = s + 1 := by unfold IntKind.wrap; simp [IntKind.bits, IntKind.signed]; omega
    go_wp2_with fail
    go_ret2
    refine ⟨rfl, ?_, (M5.out.mono (S' := (· = b)) (fun _ _ h => h.elim)).set1 1 _⟩
    show RW _ _ _ _ _ _
    unfold hearS
    rw [if_pos HNP.out]
    exact H5.out.inc _
  · have HNP := Lib.hid (of_decide_eq_false HL.out.symm)
    go_wp2_with fail
    go_ret2
    refine ⟨rfl, ?_, M5.out.mono (fun _ _ h => h.elim)⟩
    show RW _ _ _ _ _ _
    unfold hearS
    rw [if_neg HNP.out]
    exact H5.out
end Go.Proofs.Ytagiodagbfahpaa
