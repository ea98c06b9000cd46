/- Package member: the order in which members go; no condition. -/
import Derived.Test.YtagiodagbfahpaaMbA
namespace Go.Proofs.Ytagiodagbfahpaa
open Go Go.RowKit

/-- Which of two goes first. -/
def cmpF (x y : Int × Rc) : Int := orI [Lib.compareInt y.2.u x.2.u, Lib.compareInt x.2.b y.2.b, Lib.compareInt y.1 x.1]
set_option maxRecDepth 100000 in
set_option maxHeartbeats 2000000 in
theorem memFirst1 (k1 k2 : Int) (r1 r2 : Rc) (w : World) :
    Calls Try.prog 50 #[rcv k1 r1, rcv k2 r2] w fun e w' => e = .returned (.int .i64 (cmpF (k1, r1) (k2, r2))) ∧ Mod (fun _ => False) w w' := by
  obtain ⟨s1, u1, b1⟩ := r1
  obtain ⟨s2, u2, b2⟩ := r2
  unfold rcv
  dsimp only
  go_enter Try.func50, Try.ntmps50
  go_upto_region 1 with fail
  have ma := ((Mod.refl (fun _ => False) w).alloc (.cells #[.int .i64 k1, .int .i64 s1, .int .i64 u1, .int .i64 b1] 29)).alloc (.cells #[.int .i64 k2, .int .i64 s2, .int .i64 u2, .int .i64 b2] 29)
  have X1 := Lib.hid ((Blk.new w #[.int .i64 k1, .int .i64 s1, .int .i64 u1, .int .i64 b1] 29).alloc (.cells #[.int .i64 k2, .int .i64 s2, .int .i64 u2, .int .i64 b2] 29))
  have X2 := Lib.hid (Blk.new (w.alloc (.cells #[.int .i64 k1, .int .i64 s1, .int .i64 u1, .int .i64 b1] 29)) #[.int .i64 k2, .int .i64 s2, .int .i64 u2, .int .i64 b2] 29)
  rw [show (w.alloc (.cells #[.int .i64 k1, .int .i64 s1, .int .i64 u1, .int .i64 b1] 29)).heap.size = w.heap.size + 1 by simp] at X2
  have MW := Lib.hid ma
  generalize (w.alloc (.cells #[.int .i64 k1, .int .i64 s1, .int .i64 u1, .int .i64 b1] 29)).alloc (.cells #[.int .i64 k2, .int .i64 s2, .int .i64 u2, .int .i64 b2] 29) = w3 at *
  have x0 := X1.out.cell 0; have x1 := X1.out.cell 1; have x2 := X1.out.cell 2; have x3 := X1.out.cell 3
  have y0 := X2.out.cell 0; have y1 := X2.out.cell 1; have y2 := X2.out.cell 2; have y3 := X2.out.cell 3
  clear ma
  refine wp_region2 [] [46, 45] (by kernel_rfl) (by kernel_rfl) ?_
  repeat (first | (refine reg_anyT (by rfl) (fun K hK => ?_); go_simp; refine hK _ _ ?_; clear hK K) | (refine reg_read (by rfl) (fun K hK => ?_); go_simp; refine hK _ _ ?_; clear hK K))
  refine reg_read (by rfl) (fun K hK => ?_); go_simp
  refine ⟨_, fun rn => rd_same (((Try.cmp_Compare_int u2 u1 _).mono (fun e w' ⟨h1, h2⟩ => ⟨h1, h2.symm⟩))), hK _ _ ?_⟩; clear hK K
  repeat (first | (refine reg_anyT (by rfl) (fun K hK => ?_); go_simp; refine hK _ _ ?_; clear hK K) | (refine reg_read (by rfl) (fun K hK => ?_); go_simp; refine hK _ _ ?_; clear hK K))
  refine reg_read (by rfl) (fun K hK => ?_); go_simp
  refine ⟨_, fun rn => rd_same (((Try.cmp_Compare_int b1 b2 _).mono (fun e w' ⟨h1, h2⟩ => ⟨h1, h2.symm⟩))), hK _ _ ?_⟩; clear hK K
  repeat (first | (refine reg_anyT (by rfl) (fun K hK => ?_); go_simp; refine hK _ _ ?_; clear hK K) | (refine reg_read (by rfl) (fun K hK => ?_); go_simp; refine hK _ _ ?_; clear hK K))
  refine reg_read (by rfl) (fun K hK => ?_); go_simp
  refine ⟨_, fun rn => rd_same (((Try.cmp_Compare_int k2 k1 _).mono (fun e w' ⟨h1, h2⟩ => ⟨h1, h2.symm⟩))), hK _ _ ?_⟩; clear hK K
  repeat (first | (refine reg_anyT (by rfl) (fun K hK => ?_); go_simp; refine hK _ _ ?_; clear hK K) | (refine reg_read (by rfl) (fun K hK => ?_); go_simp; refine hK _ _ ?_; clear hK K))
  refine reg_eff (by rfl) (fun rn K hK => ?_); go_simp
  refine hK _ _ ?_; clear hK K
  repeat (first | (refine reg_anyT (by rfl) (fun K hK => ?_); go_simp; refine hK _ _ ?_; clear hK K) | (refine reg_read (by rfl) (fun K hK => ?_); go_simp; refine hK _ _ ?_; clear hK K))
  refine reg_read (by rfl) (fun K hK => ?_); go_simp
  refine ⟨_, fun rn => rd_same (cmpOr ⟨w3.heap.size, 0, none⟩ 3 [Lib.compareInt u2 u1, Lib.compareInt b1 b2, Lib.compareInt k2 k1] _ (or_cells (w3.drewN _) [Lib.compareInt u2 u1, Lib.compareInt b1 b2, Lib.compareInt k2 k1] _ rn) (by simp)), hK _ _ ?_⟩; clear hK K
  repeat (first | (refine reg_anyT (by rfl) (fun K hK => ?_); go_simp; refine hK _ _ ?_; clear hK K) | (refine reg_read (by rfl) (fun K hK => ?_); go_simp; refine hK _ _ ?_; clear hK K))
  refine reg_nil (fun nd => ?_)
  go_wp2_with fail
  go_ret
  exact ⟨rfl, ((MW.out.drewN _).alloc _).drewN _⟩
end Go.Proofs.Ytagiodagbfahpaa
