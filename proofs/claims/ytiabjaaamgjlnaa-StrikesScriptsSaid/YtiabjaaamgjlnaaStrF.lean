/- Package strikes: the order in which known ones go: what 'first' asks of two of them; no condition. -/
import Derived.Test.YtiabjaaamgjlnaaStrE
import Derived.Test.YtiabjaaamgjlnaaCmp
namespace Go.Proofs.Ytiabjaaamgjlnaa
open Go Go.RowKit

set_option maxRecDepth 100000 in
set_option maxHeartbeats 1000000 in
theorem strFirst1 (k : Int) (r : Rc) (w : World) :
    Calls Try.prog 31 #[rcv k r] w fun e w' => e = .returned (.int .i64 (min r.u 1)) ∧ Mod (fun _ => False) w w' := by
  obtain ⟨s, u, b⟩ := r
  unfold rcv
  dsimp only
  go_enter Try.func31, Try.ntmps31
  go_wp2_with fail
  go_ret
  exact ⟨rfl, (Mod.refl _ w).alloc _⟩

theorem or_cells (w : World) (l : List Int) (t : TypeId) (n : Nat) : ∀ (k : Nat) (v : Int), l[k]? = some v → ((w.alloc (.cells (l.map (Value.int .i64)).toArray t)).drewN n).cell? ((⟨w.heap.size, 0, none⟩ : Addr).add k) = some (.int .i64 v) := by
  intro k v h
  rw [add_g]
  have := (Blk.new w (l.map (Value.int .i64)).toArray t).cell k
  refine Eq.trans (show _ = _ from this) ?_
  simp [h]
/-- Which of two goes first. -/
def cmpF (x y : Int × Rc) : Int :=
  if Lib.compareInt (min x.2.u 1) (min y.2.u 1) ≠ 0 then Lib.compareInt (min x.2.u 1) (min y.2.u 1)
  else if 0 < x.2.u then orI [Lib.compareInt x.2.u y.2.u, Lib.compareInt y.1 x.1]
  else orI [Lib.compareInt x.2.s y.2.s, Lib.compareInt x.2.b y.2.b, Lib.compareInt y.1 x.1]

set_option maxRecDepth 100000 in
set_option maxHeartbeats 2000000 in
theorem strFirst2 (k1 k2 : Int) (r1 r2 : Rc) (g : Nat) (w : World) (hc : w.cell? ⟨g, 0, none⟩ = some (.func (.func 31) #[] #[])) :
    Calls Try.prog 35 #[rcv k1 r1, rcv k2 r2, .pointer (some ⟨g, 0, none⟩)] w fun e w' => e = .returned (.int .i64 (cmpF (k1, r1) (k2, r2))) ∧ Mod (fun _ => False) w w' := by
  have HF1 := Lib.hid (fun w => strFirst1 k1 r1 w)
  have HF2 := Lib.hid (fun w => strFirst1 k2 r2 w)
  have hg : g < w.heap.size := World.block_lt_of_cell? w _ hc
  obtain ⟨s1, u1, b1⟩ := r1
  obtain ⟨s2, u2, b2⟩ := r2
  unfold rcv at *
  dsimp only at *
  go_enter Try.func35, Try.ntmps35
  go_wp2_with fail
  have ma := ((Mod.refl (fun _ => False) w).alloc (.cells #[.int .i64 k1, .int .i64 s1, .int .i64 u1, .int .i64 b1] 56)).alloc (.cells #[.int .i64 k2, .int .i64 s2, .int .i64 u2, .int .i64 b2] 56)
  have X1 := Lib.hid ((Blk.new w #[.int .i64 k1, .int .i64 s1, .int .i64 u1, .int .i64 b1] 56).alloc (.cells #[.int .i64 k2, .int .i64 s2, .int .i64 u2, .int .i64 b2] 56))
  have X2 := Lib.hid (Blk.new (w.alloc (.cells #[.int .i64 k1, .int .i64 s1, .int .i64 u1, .int .i64 b1] 56)) #[.int .i64 k2, .int .i64 s2, .int .i64 u2, .int .i64 b2] 56)
  have MA := Lib.hid ma
  have cg := ma.cell hc (fun h => h)
  rw [show (w.alloc (.cells #[.int .i64 k1, .int .i64 s1, .int .i64 u1, .int .i64 b1] 56)).heap.size = w.heap.size + 1 by simp] at X2
  generalize (w.alloc (.cells #[.int .i64 k1, .int .i64 s1, .int .i64 u1, .int .i64 b1] 56)).alloc (.cells #[.int .i64 k2, .int .i64 s2, .int .i64 u2, .int .i64 b2] 56) = w2 at *
  have x0 := X1.out.cell 0; have x1 := X1.out.cell 1; have x2 := X1.out.cell 2; have x3 := X1.out.cell 3
  have y0 := X2.out.cell 0; have y1 := X2.out.cell 1; have y2 := X2.out.cell 2; have y3 := X2.out.cell 3
  clear ma hc
  refine wp_regionO2 [0, 1, 3, 4, 2, 5, 6, 7] [(0, 3), (1, 3), (2, 3), (3, 3), (4, 4), (5, 4), (6, 2)] [] (by kernel_rfl) (by kernel_rfl) (by simp only [List.filterMap_cons, List.filterMap_nil, List.getElem?_cons_zero, List.getElem?_cons_succ]; exact rfl) ?_
  repeat (first | (refine reg_anyT (by rfl) (fun K hK => ?_); go_simp; refine hK _ _ ?_; clear hK K) | (refine reg_read (by rfl) (fun K hK => ?_); go_simp; refine hK _ _ ?_; clear hK K))
  refine reg_hold_v (by rfl) (by rfl) (.func (.func 31) #[] #[]) (fun w' hw' => by
    have e0 := hw'.cell cg
    unfold Oper.quietAt
    go_simp) ?_
  repeat (first | (refine reg_anyT (by rfl) (fun K hK => ?_); go_simp; refine hK _ _ ?_; clear hK K) | (refine reg_read (by rfl) (fun K hK => ?_); go_simp; refine hK _ _ ?_; clear hK K))
  refine reg_hold_v (by rfl) (by rfl) (.agg #[.int .i64 k1, .int .i64 s1, .int .i64 u1, .int .i64 b1]) (fun w' hw' => by
    have e0 := hw'.cell x0; have e1 := hw'.cell x1; have e2 := hw'.cell x2; have e3 := hw'.cell x3
    unfold Oper.quietAt
    go_simp) ?_
  repeat (first | (refine reg_anyT (by rfl) (fun K hK => ?_); go_simp; refine hK _ _ ?_; clear hK K) | (refine reg_read (by rfl) (fun K hK => ?_); go_simp; refine hK _ _ ?_; clear hK K))
  refine reg_hold_v (by rfl) (by rfl) (.func (.func 31) #[] #[]) (fun w' hw' => by
    have e0 := hw'.cell cg
    unfold Oper.quietAt
    go_simp) ?_
  repeat (first | (refine reg_anyT (by rfl) (fun K hK => ?_); go_simp; refine hK _ _ ?_; clear hK K) | (refine reg_read (by rfl) (fun K hK => ?_); go_simp; refine hK _ _ ?_; clear hK K))
  refine reg_hold_v (by rfl) (by rfl) (.agg #[.int .i64 k2, .int .i64 s2, .int .i64 u2, .int .i64 b2]) (fun w' hw' => by
    have e0 := hw'.cell y0; have e1 := hw'.cell y1; have e2 := hw'.cell y2; have e3 := hw'.cell y3
    unfold Oper.quietAt
    go_simp) ?_
  repeat (first | (refine reg_anyT (by rfl) (fun K hK => ?_); go_simp; refine hK _ _ ?_; clear hK K) | (refine reg_read (by rfl) (fun K hK => ?_); go_simp; refine hK _ _ ?_; clear hK K))
  refine reg_new (by rfl) (fun rn K hK => ?_); go_simp
  refine (HF1.out _).mono ?_; rintro e w' ⟨rfl, m1⟩
  refine hK _ _ ⟨m1.ex, ?_⟩; clear hK K
  repeat (first | (refine reg_anyT (by rfl) (fun K hK => ?_); go_simp; refine hK _ _ ?_; clear hK K) | (refine reg_read (by rfl) (fun K hK => ?_); go_simp; refine hK _ _ ?_; clear hK K))
  refine reg_new (by rfl) (fun rn K hK => ?_); go_simp
  refine (HF2.out _).mono ?_; rintro e w' ⟨rfl, m2⟩
  refine hK _ _ ⟨m2.ex, ?_⟩; clear hK K
  repeat (first | (refine reg_anyT (by rfl) (fun K hK => ?_); go_simp; refine hK _ _ ?_; clear hK K) | (refine reg_read (by rfl) (fun K hK => ?_); go_simp; refine hK _ _ ?_; clear hK K))
  refine reg_eff (by rfl) (fun rn3 K hK => ?_); go_simp
  refine (Try.cmp_Compare_int _ _ _).mono ?_; rintro e w5 ⟨rfl, rfl⟩
  refine hK _ _ ?_; clear hK K
  repeat (first | (refine reg_anyT (by rfl) (fun K hK => ?_); go_simp; refine hK _ _ ?_; clear hK K) | (refine reg_read (by rfl) (fun K hK => ?_); go_simp; refine hK _ _ ?_; clear hK K))
  refine reg_nil (fun nd => ?_)
  obtain ⟨c, hcv⟩ : ∃ c, c = Lib.compareInt (min u1 1) (min u2 1) := ⟨_, rfl⟩
  have mw : Mod (fun _ => False) w2 ((w'.drewN rn3).drewN nd) := by first | exact ((m1.undrew.trans m2.undrew).drewN rn3).drewN nd | exact ((m2.undrew.trans m1.undrew).drewN rn3).drewN nd
  have X3 := Lib.hid (X1.out.mod mw (fun h => h))
  have Y3 := Lib.hid (X2.out.mod mw (fun h => h))
  have MW := Lib.hid (MA.out.trans mw)
  rw [← hcv]
  have HCV := Lib.hid hcv
  clear hcv m1 m2 mw x0 x1 x2 x3 y0 y1 y2 y3 cg
  generalize (w'.drewN rn3).drewN nd = w3 at *
  have x0 := X3.out.cell 0; have x1 := X3.out.cell 1; have x2 := X3.out.cell 2; have x3 := X3.out.cell 3
  have y0 := Y3.out.cell 0; have y1 := Y3.out.cell 1; have y2 := Y3.out.cell 2; have y3 := Y3.out.cell 3
  by_cases hc0 : c = 0
  · have HC0 : Hid (¬ Lib.compareInt (min u1 1) (min u2 1) ≠ 0) := by show ¬ _; rw [← HCV.out, hc0]; simp
    have hc0' : (c == 0) = true := by simpa using hc0
    by_cases hu : 0 < u1
    · have HR : Hid (cmpF (k1, ⟨s1, u1, b1⟩) (k2, ⟨s2, u2, b2⟩) = orI [Lib.compareInt u1 u2, Lib.compareInt k2 k1]) := by
        show _ = _; unfold cmpF; simp only; rw [if_neg HC0.out, if_pos hu]
      subst hc0
      go_wp2_with fail
      refine wp_region2 [] [36, 37] (by kernel_rfl) (by kernel_rfl) ?_
      repeat (first | (refine reg_anyT (by rfl) (fun K hK => ?_); go_simp; refine hK _ _ ?_; clear hK K) | (refine reg_read (by rfl) (fun K hK => ?_); go_simp; refine hK _ _ ?_; clear hK K))
      refine reg_read (by rfl) (fun K hK => ?_); go_simp
      refine ⟨_, fun rn => rd_same (((Try.cmp_Compare_int u1 u2 _).mono (fun e w' ⟨h1, h2⟩ => ⟨h1, h2.symm⟩))), hK _ _ ?_⟩; clear hK K
      repeat (first | (refine reg_anyT (by rfl) (fun K hK => ?_); go_simp; refine hK _ _ ?_; clear hK K) | (refine reg_read (by rfl) (fun K hK => ?_); go_simp; refine hK _ _ ?_; clear hK K))
      refine reg_read (by rfl) (fun K hK => ?_); go_simp
      refine ⟨_, fun rn => rd_same (((Try.cmp_Compare_int k2 k1 _).mono (fun e w' ⟨h1, h2⟩ => ⟨h1, h2.symm⟩))), hK _ _ ?_⟩; clear hK K
      repeat (first | (refine reg_anyT (by rfl) (fun K hK => ?_); go_simp; refine hK _ _ ?_; clear hK K) | (refine reg_read (by rfl) (fun K hK => ?_); go_simp; refine hK _ _ ?_; clear hK K))
      refine reg_eff (by rfl) (fun rn K hK => ?_); go_simp
      refine hK _ _ ?_; clear hK K
      repeat (first | (refine reg_anyT (by rfl) (fun K hK => ?_); go_simp; refine hK _ _ ?_; clear hK K) | (refine reg_read (by rfl) (fun K hK => ?_); go_simp; refine hK _ _ ?_; clear hK K))
      refine reg_read (by rfl) (fun K hK => ?_); go_simp
      refine ⟨_, fun rn => rd_same (cmpOr ⟨w3.heap.size, 0, none⟩ 2 [Lib.compareInt u1 u2, Lib.compareInt k2 k1] _ (or_cells (w3.drewN _) [Lib.compareInt u1 u2, Lib.compareInt k2 k1] _ rn) (by simp)), hK _ _ ?_⟩; clear hK K
      repeat (first | (refine reg_anyT (by rfl) (fun K hK => ?_); go_simp; refine hK _ _ ?_; clear hK K) | (refine reg_read (by rfl) (fun K hK => ?_); go_simp; refine hK _ _ ?_; clear hK K))
      refine reg_nil (fun nd => ?_)
      go_wp2_with fail
      go_ret
      exact ⟨by rw [HR.out]; rfl, ((MW.out.drewN _).alloc _).drewN _⟩
    · have HR : Hid (cmpF (k1, ⟨s1, u1, b1⟩) (k2, ⟨s2, u2, b2⟩) = orI [Lib.compareInt s1 s2, Lib.compareInt b1 b2, Lib.compareInt k2 k1]) := by
        show _ = _; unfold cmpF; simp only; rw [if_neg HC0.out, if_neg hu]
      subst hc0
      go_wp2_with fail
      refine wp_region2 [] [36, 37] (by kernel_rfl) (by kernel_rfl) ?_
      repeat (first | (refine reg_anyT (by rfl) (fun K hK => ?_); go_simp; refine hK _ _ ?_; clear hK K) | (refine reg_read (by rfl) (fun K hK => ?_); go_simp; refine hK _ _ ?_; clear hK K))
      refine reg_read (by rfl) (fun K hK => ?_); go_simp
      refine ⟨_, fun rn => rd_same (((Try.cmp_Compare_int s1 s2 _).mono (fun e w' ⟨h1, h2⟩ => ⟨h1, h2.symm⟩))), hK _ _ ?_⟩; clear hK K
      repeat (first | (refine reg_anyT (by rfl) (fun K hK => ?_); go_simp; refine hK _ _ ?_; clear hK K) | (refine reg_read (by rfl) (fun K hK => ?_); go_simp; refine hK _ _ ?_; clear hK K))
      refine reg_read (by rfl) (fun K hK => ?_); go_simp
      refine ⟨_, fun rn => rd_same (((Try.cmp_Compare_int b1 b2 _).mono (fun e w' ⟨h1, h2⟩ => ⟨h1, h2.symm⟩))), hK _ _ ?_⟩; clear hK K
      repeat (first | (refine reg_anyT (by rfl) (fun K hK => ?_); go_simp; refine hK _ _ ?_; clear hK K) | (refine reg_read (by rfl) (fun K hK => ?_); go_simp; refine hK _ _ ?_; clear hK K))
      refine reg_read (by rfl) (fun K hK => ?_); go_simp
      refine ⟨_, fun rn => rd_same (((Try.cmp_Compare_int k2 k1 _).mono (fun e w' ⟨h1, h2⟩ => ⟨h1, h2.symm⟩))), hK _ _ ?_⟩; clear hK K
      repeat (first | (refine reg_anyT (by rfl) (fun K hK => ?_); go_simp; refine hK _ _ ?_; clear hK K) | (refine reg_read (by rfl) (fun K hK => ?_); go_simp; refine hK _ _ ?_; clear hK K))
      refine reg_eff (by rfl) (fun rn K hK => ?_); go_simp
      refine hK _ _ ?_; clear hK K
      repeat (first | (refine reg_anyT (by rfl) (fun K hK => ?_); go_simp; refine hK _ _ ?_; clear hK K) | (refine reg_read (by rfl) (fun K hK => ?_); go_simp; refine hK _ _ ?_; clear hK K))
      refine reg_read (by rfl) (fun K hK => ?_); go_simp
      refine ⟨_, fun rn => rd_same (cmpOr ⟨w3.heap.size, 0, none⟩ 3 [Lib.compareInt s1 s2, Lib.compareInt b1 b2, Lib.compareInt k2 k1] _ (or_cells (w3.drewN _) [Lib.compareInt s1 s2, Lib.compareInt b1 b2, Lib.compareInt k2 k1] _ rn) (by simp)), hK _ _ ?_⟩; clear hK K
      repeat (first | (refine reg_anyT (by rfl) (fun K hK => ?_); go_simp; refine hK _ _ ?_; clear hK K) | (refine reg_read (by rfl) (fun K hK => ?_); go_simp; refine hK _ _ ?_; clear hK K))
      refine reg_nil (fun nd => ?_)
      go_wp2_with fail
      go_ret
      exact ⟨by rw [HR.out]; rfl, ((MW.out.drewN _).alloc _).drewN _⟩
  · have HR : Hid (cmpF (k1, ⟨s1, u1, b1⟩) (k2, ⟨s2, u2, b2⟩) = c) := by
      show _ = _; unfold cmpF; simp only; rw [if_pos (by rw [← HCV.out]; exact hc0), HCV.out]
    have hc0' : (c == 0) = false := by simpa using hc0
    go_wp2_with fail
    go_ret
    exact ⟨by rw [HR.out]; rfl, MW.out⟩
end Go.Proofs.Ytiabjaaamgjlnaa
