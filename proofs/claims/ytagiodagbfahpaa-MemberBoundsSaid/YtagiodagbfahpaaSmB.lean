/- The reference of member: cut, put; no condition. -/
import Derived.Test.YtagiodagbfahpaaSmA
import Derived.Deep.CutBlock
import Derived.Deep.CutRange
namespace Go.Proofs.Ytagiodagbfahpaa
open Go Go.RowKit

theorem recL_append (a b : List (Int × Rc)) : recL (a ++ b) = recL a ++ recL b := List.flatMap_append
theorem recL_takeN : ∀ (ks : List (Int × Rc)) (k : Nat), recL (ks.take k) = (recL ks).take (k * 4)
  | [], k => by simp [recL]
  | q :: t, 0 => by simp [recL]
  | q :: t, k + 1 => by
    rw [List.take_succ_cons, recL_cons, recL_cons, List.take_append, List.take_of_length_le (l := recC q) (by simp; omega), show (k + 1) * 4 - (recC q).length = k * 4 by simp; omega, recL_takeN t k]
theorem recL_dropN : ∀ (ks : List (Int × Rc)) (k : Nat), recL (ks.drop k) = (recL ks).drop (k * 4)
  | [], k => by simp [recL]
  | q :: t, 0 => by simp [recL]
  | q :: t, k + 1 => by
    rw [List.drop_succ_cons, recL_cons, List.drop_append, List.drop_eq_nil_of_le (show (recC q).length ≤ (k + 1) * 4 by simp; omega), show (k + 1) * 4 - (recC q).length = k * 4 by simp; omega, recL_dropN t k]
    rfl
theorem recL_one (ks : List (Int × Rc)) : ∀ u ∈ recL ks, u.oneCell' = true := by
  intro u hu
  obtain ⟨q, _, hq⟩ := List.mem_flatMap.1 hu
  simp only [List.mem_cons, List.not_mem_nil, or_false] at hq
  rcases hq with rfl | rfl | rfl | rfl <;> rfl
set_option maxRecDepth 100000 in
set_option maxHeartbeats 2000000 in
theorem refVCut (i : Nat) (b base : Nat) (S : Int × Rc) (most : Int) (ks : List (Int × Rc)) (w : World) (h : RW w b base S most ks) (hlen : ks.length ≤ 1000) (hi : i < ks.length) :
    Calls Try.prog 57 #[.pointer (some ⟨b, 0, none⟩), .int .i64 i] w fun e w' => e = .returned (.tuple #[]) ∧ RW w' b w.heap.size S most (ks.take i ++ ks.drop (i + 1)) ∧ Mod (· = b) w w' := by
  obtain ⟨a, cap, _, c3, f3, he, hbk, ho, hcap⟩ := h.at
  obtain ⟨X, rfl⟩ : ∃ X, a = some X := by
    obtain ⟨X, h, _⟩ := he.out 0 (by omega)
    exact ⟨X, h⟩
  have hb : b < w.heap.size := World.block_lt_of_cell? w _ c3
  clear h f3
  have TK := Lib.hid (recL_takeN ks i)
  obtain ⟨j1, hj1⟩ : ∃ j1, j1 = i + 1 := ⟨_, rfl⟩
  have hj1i : (i : Int) + 1 = (j1 : Int) := by omega
  have hwr : IntKind.i64.wrap (j1 : Int) = (j1 : Int) := by unfold IntKind.wrap; simp [IntKind.bits, IntKind.signed]; omega
  have TD := Lib.hid (recL_dropN ks j1)
  have hjc : (i : Int) ≤ cap := by omega
  have hjc2 : (j1 : Int) ≤ cap := by omega
  have hjn2 : (j1 : Int) ≤ ks.length := by omega
  have hjn3 : j1 ≤ ks.length := by omega
  have hjc3 : (ks.length : Int) ≤ cap := by omega
  rw [← hj1]
  have HJ1 := Lib.hid hj1
  clear hj1
  go_enter Try.func57, Try.ntmps57
  go_wp2_with fail
  refine wp_regionO2 [0, 2, 3, 4, 5, 6, 7, 9, 10, 11, 12, 13, 14, 15, 1, 8, 16, 17, 18, 19] [(4, 3), (10, 3), (14, 4), (15, 4)] [] (by kernel_rfl) (by kernel_rfl) (by simp only [List.filterMap_cons, List.filterMap_nil, List.getElem?_cons_zero, List.getElem?_cons_succ]; exact rfl) ?_
  repeat (first | (refine reg_anyT (by rfl) (fun K hK => ?_); go_simp; refine hK _ _ ?_; clear hK K) | (refine reg_read (by rfl) (fun K hK => ?_); go_simp; refine hK _ _ ?_; clear hK K))
  refine reg_hold_v (by rfl) (by rfl) (.slice (some X) ks.length cap) (fun w' hw' => q_load _ _ _ rfl rfl Try.isAgg22 (hw'.cell c3)) ?_
  repeat (first | (refine reg_anyT (by rfl) (fun K hK => ?_); go_simp; refine hK _ _ ?_; clear hK K) | (refine reg_read (by rfl) (fun K hK => ?_); go_simp; refine hK _ _ ?_; clear hK K))
  refine reg_hold_v (by rfl) (by rfl) (.slice (some X) ks.length cap) (fun w' hw' => q_load _ _ _ rfl rfl Try.isAgg22 (hw'.cell c3)) ?_
  repeat (first | (refine reg_anyT (by rfl) (fun K hK => ?_); go_simp; refine hK _ _ ?_; clear hK K) | (refine reg_read (by rfl) (fun K hK => ?_); go_simp; refine hK _ _ ?_; clear hK K))
  refine reg_new (by rfl) (fun rn K hK => ?_); go_simp
  refine hK _ _ ⟨((Mod.refl (fun _ => False) (w.drewN rn)).alloc (.cells #[] TMb)).ex, ?_⟩; clear hK K
  have ma : Mod (fun _ => False) w ((w.drewN rn).alloc (.cells #[] TMb)) := ((Mod.refl _ w).drewN rn).alloc _
  have ga : Blk ((w.drewN rn).alloc (.cells #[] TMb)) w.heap.size #[] TMb := Blk.new (w.drewN rn) _ _
  refine reg_app0 (base := w.heap.size) (by rfl) (by rfl) (.tmp 5) (.tmp 11) TMs TMb 4 rfl Try.underlying22 infoKn rfl (by decide) w.heap.size _ i (recL (ks.take i)) (Nat.le_refl _) ga rfl rfl (by rw [TK.out]; exact (((ho.out.sl).mod ma (fun _ _ _ _ h => h)).head (by omega))) (recL_one _) (by decide) (by omega) ?_
  intro v1 w3 o1 n1 a1
  have N1 := Lib.hid (ma.trans n1)
  have O3 := Lib.hid o1
  clear o1 n1 a1 ma ga
  refine reg_app (base := w.heap.size) (by rfl) (by rfl) (.tmp 12) (.tmp 19) TMs TMb 4 rfl Try.underlying22 infoKn rfl (by decide) _ _ _ _ (ks.length - j1) (recL (ks.drop j1)) N1.out.size O3.out rfl rfl (by rw [TD.out]; first | exact (ho.out.sl.mod N1.out (fun _ _ _ _ h => h)).tail (by omega) hcap | exact (ho.out.sl.mod N1.out (fun _ _ _ _ h => h)).tailN (by omega) hcap) (recL_one _) (by decide) (by omega) ?_
  intro v2 w4 o2 n2 a2
  refine ⟨fun _ => trivial, ?_⟩
  obtain ⟨a3, cap3, rfl, _, _, _⟩ := o2.els
  have O4 := Lib.hid o2
  have ho3 := own_ge O3.out
  have N4 := Lib.hid ((N1.out.mono (S' := (fun i => w.heap.size ≤ i)) (fun _ _ h => h.elim)).trans (n2.mono (fun i _ h => ho3 i h)))
  have k33 := N4.out.cell c3 (by show ¬ w.heap.size ≤ b; omega)
  have f33 : w4.frozen? ⟨b, 5, none⟩ = false := by rw [N4.out.frozen (by show b < w.heap.size; omega) (by show ¬ w.heap.size ≤ b; omega)]; exact hbk.out.frozen 5
  have K4 := Lib.hid (hbk.out.mod N4.out (by show ¬ w.heap.size ≤ b; omega))
  clear o2 n2 a2 ho3
  repeat (first | (refine reg_anyT (by rfl) (fun K hK => ?_); go_simp; refine hK _ _ ?_; clear hK K) | (refine reg_read (by rfl) (fun K hK => ?_); go_simp; refine hK _ _ ?_; clear hK K))
  refine reg_eff (by rfl) (fun rn K hK => ?_); go_simp; refine hK _ _ ?_; clear hK K
  repeat (first | (refine reg_anyT (by rfl) (fun K hK => ?_); go_simp; refine hK _ _ ?_; clear hK K) | (refine reg_read (by rfl) (fun K hK => ?_); go_simp; refine hK _ _ ?_; clear hK K))
  refine reg_nil (fun nd => ?_)
  have hlenP : (ks.take i ++ ks.drop j1).length = i + (ks.length - j1) := by simp; omega
  have T5 : Hid (RW (((w4.drewN rn).setCell ⟨b, 5, none⟩ (.slice a3 (i + (ks.length - j1)) cap3)).drewN nd) b w.heap.size S most (ks.take i ++ ks.drop j1)) := by
    refine ⟨hb, a3, cap3, ?_, ?_⟩
    · rw [hlenP]
      exact (show Blk (w4.drewN rn) b _ _ from K4.out).set 5 (.slice a3 (i + (ks.length - j1)) cap3)
    · rw [hlenP, recL_append]
      exact owns_modG (S := (· = b)) O4.out ((((Mod.refl _ w4).drewN rn).set1 5 _).drewN nd) (fun i hi e => by omega)
  have M5 := Lib.hid ((((N4.out.mono (S' := (· = b)) (fun i hi (h : w.heap.size ≤ i) => by omega)).drewN rn).set1 5 (.slice a3 (i + (ks.length - j1)) cap3)).drewN nd)
  clear k33 f33 c3 hlenP
  go_wp2_with fail
  all_goals (
    go_end0
    exact ⟨rfl, T5.out, M5.out⟩)

end Go.Proofs.Ytagiodagbfahpaa
