/- Package journal: Commit; no condition. -/
import Derived.Test.YtdlplablojdjlaaJp
namespace Go.Proofs.Ytdlplablojdjlaa
open Go Go.RowKit

set_option maxRecDepth 100000 in
set_option maxHeartbeats 1000000 in
theorem jCommit1 {base j d m N S C bj : Nat} {w : World} {F : FileS} {st wv : Value} {x : Int × Option Addr × Nat × Nat} (h : JS w base j d F m st wv [(F.b, x)] N S C) (hx : Blk w bj #[.pointer (some ⟨j, 0, none⟩)] 31) :
    Calls Try.prog 27 #[.pointer (some ⟨bj, 0, none⟩)] w fun e w' => e = .returned (.int .i64 0) ∧ (∃ wv', JS w' base j d ⟨F.b, F.n, F.n⟩ m st wv' [] N S C) ∧ TM tD base w w' := by
  have c0 := hx.cell 0
  have d0 := h.jb.cell 0
  have d1 := h.jb.cell 1
  have HW := Lib.hid (fun rn => jSync (w := w.drewN rn) false F x (h.dk.drewN rn) (qNew_false F) h.base_lt)
  have HJ := Lib.hid (And.intro h.jb h.jge)
  clear h hx
  go_enter Try.func27, Try.ntmps27
  go_wp2_with fail
  refine wp_region2 [] [] (by kernel_rfl) (by kernel_rfl) ?_
  repeat (first | (refine reg_anyT (by rfl) (fun K hK => ?_); go_simp; refine hK _ _ ?_; clear hK K) | (refine reg_read (by rfl) (fun K hK => ?_); go_simp; refine hK _ _ ?_; clear hK K))
  refine reg_eff (by rfl) (fun rn K hK => ?_); go_simp
  refine (HW.out rn).mono ?_; rintro e w2 ⟨rfl, wv', d2, t2⟩
  refine hK _ _ ?_; clear hK K
  repeat (first | (refine reg_anyT (by rfl) (fun K hK => ?_); go_simp; refine hK _ _ ?_; clear hK K) | (refine reg_read (by rfl) (fun K hK => ?_); go_simp; refine hK _ _ ?_; clear hK K))
  refine reg_nil (fun nd => ?_)
  have md := (Mod.refl (fun _ => False) w2).drewN nd
  have T2 := (((TM.new (ts := tD) (base := base) ((Mod.refl (fun _ => False) w).drewN rn)).trans t2).trans (TM.new md))
  rw [qNew_put] at d2
  have R2 : Hid (JS (w2.drewN nd) base j d ⟨F.b, F.n, F.n⟩ m st wv' [] N S C ∧ TM tD base w (w2.drewN nd)) := ⟨⟨T2.blk HJ.out.1 (by simp), d2.new md, HJ.out.2⟩, T2⟩
  clear md T2 d2 t2 HW c0 d0 d1
  generalize w2.drewN nd = w3 at *
  go_wp2_with fail
  go_ret
  exact ⟨rfl, ⟨wv', R2.out.1⟩, R2.out.2⟩
set_option maxRecDepth 100000 in
set_option maxHeartbeats 1000000 in
theorem jCommit3 {base j d m N S C bj : Nat} {w : World} {F : FileS} {st wv : Value} {x : Int × Option Addr × Nat × Nat} (h : JS w base j d F m st wv [(F.b, x)] N S C) (hx : Blk w bj #[.pointer (some ⟨j, 0, none⟩)] 31) :
    Calls Try.prog 31 #[.pointer (some ⟨bj, 0, none⟩)] w fun e w' => e = .returned (.int .i64 0) ∧ (∃ wv', JS w' base j d ⟨F.b, F.n, F.n⟩ m st wv' [] N S C) ∧ TM tD base w w' := by
  have c0 := hx.cell 0
  have d0 := h.jb.cell 0
  have d1 := h.jb.cell 1
  have HW := Lib.hid (fun rn => jSync (w := w.drewN rn) false F x (h.dk.drewN rn) (qNew_false F) h.base_lt)
  have HJ := Lib.hid (And.intro h.jb h.jge)
  clear h hx
  go_enter Try.func31, Try.ntmps31
  go_wp2_with fail
  refine wp_region2 [] [] (by kernel_rfl) (by kernel_rfl) ?_
  repeat (first | (refine reg_anyT (by rfl) (fun K hK => ?_); go_simp; refine hK _ _ ?_; clear hK K) | (refine reg_read (by rfl) (fun K hK => ?_); go_simp; refine hK _ _ ?_; clear hK K))
  refine reg_eff (by rfl) (fun rn K hK => ?_); go_simp
  refine (HW.out rn).mono ?_; rintro e w2 ⟨rfl, wv', d2, t2⟩
  refine hK _ _ ?_; clear hK K
  repeat (first | (refine reg_anyT (by rfl) (fun K hK => ?_); go_simp; refine hK _ _ ?_; clear hK K) | (refine reg_read (by rfl) (fun K hK => ?_); go_simp; refine hK _ _ ?_; clear hK K))
  refine reg_nil (fun nd => ?_)
  have md := (Mod.refl (fun _ => False) w2).drewN nd
  have T2 := (((TM.new (ts := tD) (base := base) ((Mod.refl (fun _ => False) w).drewN rn)).trans t2).trans (TM.new md))
  rw [qNew_put] at d2
  have R2 : Hid (JS (w2.drewN nd) base j d ⟨F.b, F.n, F.n⟩ m st wv' [] N S C ∧ TM tD base w (w2.drewN nd)) := ⟨⟨T2.blk HJ.out.1 (by simp), d2.new md, HJ.out.2⟩, T2⟩
  clear md T2 d2 t2 HW c0 d0 d1
  generalize w2.drewN nd = w3 at *
  go_wp2_with fail
  go_ret
  exact ⟨rfl, ⟨wv', R2.out.1⟩, R2.out.2⟩
theorem fb_ne {w w' : World} {base : Nat} {u : Value} {r : List Nat} {F : FileS} (h : FB w' w.heap.size u r) (hf : FK w base F) : ∀ x n c, u = .slice (some x) n c → x.block ≠ F.b := fun x n c e e2 => by
  have h1 := h.2 x n c e
  obtain ⟨nv, sv, hb, _⟩ := hf.k
  have := hb.lt
  omega
set_option maxRecDepth 100000 in
set_option maxHeartbeats 2000000 in
theorem jCommit2 {base j d m N S C bj bn X : Nat} {w : World} {F : FileS} {st wv : Value} (h : JS w base j d F m st wv [] N S C) (hx : Blk w bj #[.pointer (some ⟨j, 0, none⟩)] 31) (hy : Blk w bn #[.int .i64 X] 3) (hX : X ≤ 1000000) (hS : S ≤ 200000) (hl : F.n.length = 32 + S) :
    Calls Try.prog 29 #[.pointer (some ⟨bj, 0, none⟩), .pointer (some ⟨bn, 0, none⟩)] w fun e w' => e = .returned (.int .i64 0) ∧ (∃ wv' x, JS w' base j d ⟨F.b, wr F.n (X % 2 * 16) (hd X S), F.s⟩ m st wv' [(F.b, x)] N S C) ∧ TM tD base w w' := by
  have c0 := hx.cell 0
  have n0 := hy.cell 0
  have d0 := h.jb.cell 0
  have d1 := h.jb.cell 1
  have d3 := h.jb.cell 3
  obtain ⟨p, hp⟩ : ∃ p, p = X % 2 * 16 := ⟨_, rfl⟩
  have g1 : (X : Int).tmod 2 = ((X % 2 : Nat) : Int) := by rw [Int.tmod_eq_emod_of_nonneg (by omega)]; omega
  have g2 : IntKind.i64.wrap (((X % 2 : Nat) : Int) * 16) = (p : Int) := by rw [wrapI (by omega) (by omega)]; omega
  obtain ⟨q2, hq2⟩ : ∃ q, q = X % 2 := ⟨_, rfl⟩
  rw [← hq2] at g1 g2
  have HP := Lib.hid hp
  rw [← hp]
  have hp16 : p ≤ 16 := by omega
  have HJ := Lib.hid h
  have HK := Lib.hid (fun rn => jHead X S (w.drewN rn) (by omega) (by omega))
  have HH := Lib.hid (And.intro hp16 (And.intro hS hl))
  clear h hx hy hX hS hl hp hq2 hp16
  go_enter Try.func29, Try.ntmps29
  go_wp2_with fail
  refine wp_region2 [(0, 3), (3, 3), (4, 3), (7, 3), (8, 3), (16, 4)] [] (by kernel_rfl) (by kernel_rfl) ?_
  repeat (first | (refine reg_anyT (by rfl) (fun K hK => ?_); go_simp; refine hK _ _ ?_; clear hK K) | (refine reg_read (by rfl) (fun K hK => ?_); go_simp; refine hK _ _ ?_; clear hK K))
  refine reg_hold_v (by rfl) (by rfl) (.pointer (some ⟨j, 0, none⟩)) (fun w' hw' => q_load _ _ _ rfl rfl Try.isAgg31 (hw'.cell c0)) ?_
  repeat (first | (refine reg_anyT (by rfl) (fun K hK => ?_); go_simp; refine hK _ _ ?_; clear hK K) | (refine reg_read (by rfl) (fun K hK => ?_); go_simp; refine hK _ _ ?_; clear hK K))
  refine reg_hold_v (by rfl) (by rfl) (.pointer (some ⟨d, 0, none⟩)) (fun w' hw' => q_load _ _ _ rfl rfl Try.isAgg23 (hw'.cell d0)) ?_
  repeat (first | (refine reg_anyT (by rfl) (fun K hK => ?_); go_simp; refine hK _ _ ?_; clear hK K) | (refine reg_read (by rfl) (fun K hK => ?_); go_simp; refine hK _ _ ?_; clear hK K))
  refine reg_hold_v (by rfl) (by rfl) (.pointer (some ⟨j, 0, none⟩)) (fun w' hw' => q_load _ _ _ rfl rfl Try.isAgg31 (hw'.cell c0)) ?_
  repeat (first | (refine reg_anyT (by rfl) (fun K hK => ?_); go_simp; refine hK _ _ ?_; clear hK K) | (refine reg_read (by rfl) (fun K hK => ?_); go_simp; refine hK _ _ ?_; clear hK K))
  refine reg_hold_v (by rfl) (by rfl) (.string (nmOf false)) (fun w' hw' => q_load _ _ _ rfl rfl Try.isAgg9 (hw'.cell d1)) ?_
  repeat (first | (refine reg_anyT (by rfl) (fun K hK => ?_); go_simp; refine hK _ _ ?_; clear hK K) | (refine reg_read (by rfl) (fun K hK => ?_); go_simp; refine hK _ _ ?_; clear hK K))
  refine reg_hold_v (by rfl) (by rfl) (.int .i64 X) (fun w' hw' => q_load _ _ _ rfl rfl Try.isAgg3 (hw'.cell n0)) ?_
  repeat (first | (refine reg_anyT (by rfl) (fun K hK => ?_); go_simp; refine hK _ _ ?_; clear hK K) | (refine reg_read (by rfl) (fun K hK => ?_); go_simp; refine hK _ _ ?_; clear hK K))
  refine reg_new (by rfl) (fun rn K hK => ?_); go_simp
  refine (HK.out rn).mono ?_; rintro e w2 ⟨v2, rfl, f2, m2⟩
  refine hK _ _ ⟨m2.ex, ?_⟩; clear hK K
  have J2 := Lib.hid (HJ.out.new m2.undrew)
  have M2 := Lib.hid m2.undrew
  have HW := Lib.hid (fun rn2 => jWrite (w := w2.drewN rn2) false F p v2 (hd X S) (J2.out.dk.drewN rn2) (qNew_false F) (f2.1.new ((Mod.refl _ w2).drewN rn2)) (fb_ne (w := w) (base := base) f2 (HJ.out.dk.hf false F (qNew_false F)))
    (by have := HH.out; omega) (by rw [len_hd]; decide) (by rw [len_hd]; have := HH.out; omega) (by rw [lenq_new, len_hd]; have := HH.out; omega) (by simp) J2.out.base_lt)
  clear f2 m2 HK
  repeat (first | (refine reg_anyT (by rfl) (fun K hK => ?_); go_simp; refine hK _ _ ?_; clear hK K) | (refine reg_read (by rfl) (fun K hK => ?_); go_simp; refine hK _ _ ?_; clear hK K))
  refine reg_eff (by rfl) (fun rn K hK => ?_); go_simp
  refine (HW.out rn).mono ?_; rintro e w3 ⟨rfl, wv', x, d3', t3⟩
  refine hK _ _ ?_; clear hK K
  repeat (first | (refine reg_anyT (by rfl) (fun K hK => ?_); go_simp; refine hK _ _ ?_; clear hK K) | (refine reg_read (by rfl) (fun K hK => ?_); go_simp; refine hK _ _ ?_; clear hK K))
  refine reg_nil (fun nd => ?_)
  have md := (Mod.refl (fun _ => False) w3).drewN nd
  have T2 := (((TM.new (ts := tD) (base := base) (M2.out.drewN rn)).trans t3).trans (TM.new md))
  rw [qNew_put] at d3'
  have R2 : Hid (JS (w3.drewN nd) base j d ⟨F.b, wr F.n p (hd X S), F.s⟩ m st wv' [(F.b, x)] N S C ∧ TM tD base w (w3.drewN nd)) := ⟨⟨T2.blk HJ.out.jb (by simp), d3'.new md, HJ.out.jge⟩, T2⟩
  clear md T2 d3' t3 HW c0 n0 d0 d1 d3
  generalize w3.drewN nd = w4 at *
  go_wp2_with fail
  go_ret
  exact ⟨rfl, ⟨wv', x, R2.out.1⟩, R2.out.2⟩
set_option maxRecDepth 100000 in
set_option maxHeartbeats 2000000 in
theorem jCommit4 {base j d m N S C bj bn X : Nat} {w : World} {F : FileS} {st wv : Value} {ls : List LT3} (h : JS w base j d F m st wv ls N S C) (hx : Blk w bj #[.pointer (some ⟨j, 0, none⟩)] 31) (hy : Blk w bn #[.int .i64 X] 3) :
    Calls Try.prog 32 #[.pointer (some ⟨bn, 0, none⟩), .pointer (some ⟨bj, 0, none⟩)] w fun e w' => e = .returned (.int .i64 0) ∧ JS w' base j d F m st wv ls X S S ∧ TM tJ base w w' := by
  have c0 := hx.cell 0
  have n0 := hy.cell 0
  have d3 := h.jb.cell 3
  have e2 := h.jb.cell 2
  have e4 := h.jb.cell 4
  have f2 := h.jb.frozen 2
  have f4 := h.jb.frozen 4
  have HJ := Lib.hid h
  have hne : bj ≠ j := fun e => by
    have h1 : w.heap[bj]? = _ := hx
    rw [e, show w.heap[j]? = _ from h.jb] at h1
    cases h1
  have HX := Lib.hid (And.intro hx hne)
  clear h hx hy hne
  go_enter Try.func32, Try.ntmps32
  go_wp2_with fail
  obtain ⟨CS, hCS⟩ : ∃ S : World → Prop, S = fun w' => w'.cell? ⟨bj, 0, none⟩ = some (.pointer (some ⟨j, 0, none⟩)) := ⟨_, rfl⟩
  refine wp_regionS [(1, 0)] [] CS (by kernel_rfl) (by kernel_rfl) (by subst hCS; intro n; exact c0) ?_
  repeat (first | (refine reg_anyT (by rfl) (fun K hK => ?_); go_simp; refine hK _ _ ?_; clear hK K) | (refine reg_read (by rfl) (fun K hK => ?_); go_simp; refine hK _ _ ?_; clear hK K))
  refine reg_loadS (by rfl) (by rfl) (.pointer (some ⟨j, 0, none⟩)) _ _ _ rfl rfl Try.isAgg31 (by subst hCS; exact fun _ h => h) ?_
  repeat (first | (refine reg_anyT (by rfl) (fun K hK => ?_); go_simp; refine hK _ _ ?_; clear hK K) | (refine reg_read (by rfl) (fun K hK => ?_); go_simp; refine hK _ _ ?_; clear hK K))
  refine reg_effS (by rfl) (fun rn K hK => ?_); go_simp
  have X1 : Blk ((w.drewN rn).setCell ⟨j, 2, none⟩ (.int .i64 X)) bj _ _ := (show Blk (w.drewN rn) bj _ _ from HX.out.1).setOther (by exact HX.out.2.symm) _
  refine hK _ _ ⟨fun m => by subst hCS; exact X1.cell 0, ?_⟩; clear hK K
  have B1 : JB ((w.drewN rn).setCell ⟨j, 2, none⟩ (.int .i64 X)) j d X S C := (show JB (w.drewN rn) j d N S C from HJ.out.jb).set 2 _
  have T1 := (TM.new (ts := [64]) (base := base) ((Mod.refl (fun _ => False) w).drewN rn)).trans (TM.set (ts := [64]) (show JB (w.drewN rn) j d N S C from HJ.out.jb) HJ.out.jge (by simp) 2 (.int .i64 X))
  have HX1 := Lib.hid X1
  have HB1 := Lib.hid B1
  have HT1 := Lib.hid T1
  clear X1 B1 T1 c0 n0 d3 e2 e4 f2 f4 HX
  generalize (w.drewN rn).setCell ⟨j, 2, none⟩ (.int .i64 X) = w2 at *
  have e4 := HB1.out.cell 4
  have f4 := HB1.out.frozen 4
  repeat (first | (refine reg_anyT (by rfl) (fun K hK => ?_); go_simp; refine hK _ _ ?_; clear hK K) | (refine reg_read (by rfl) (fun K hK => ?_); go_simp; refine hK _ _ ?_; clear hK K))
  refine reg_effS (by rfl) (fun rn2 K hK => ?_); go_simp
  have X2 : Blk ((w2.drewN rn2).setCell ⟨j, 4, none⟩ (.int .i64 S)) bj _ _ := (show Blk (w2.drewN rn2) bj _ _ from HX1.out).setOther (by
    intro e
    dsimp only at e
    have h1 : w2.heap[bj]? = _ := HX1.out
    rw [← e, show w2.heap[j]? = _ from HB1.out] at h1
    cases h1) _
  refine hK _ _ ⟨fun m => by subst hCS; exact X2.cell 0, ?_⟩; clear hK K
  repeat (first | (refine reg_anyT (by rfl) (fun K hK => ?_); go_simp; refine hK _ _ ?_; clear hK K) | (refine reg_read (by rfl) (fun K hK => ?_); go_simp; refine hK _ _ ?_; clear hK K))
  refine reg_nil (fun nd => ?_)
  have B2 : JB (((w2.drewN rn2).setCell ⟨j, 4, none⟩ (.int .i64 S)).drewN nd) j d X S S := (show JB (w2.drewN rn2) j d X S C from HB1.out).set 4 _
  have T2 := (((HT1.out.trans (TM.new ((Mod.refl (fun _ => False) w2).drewN rn2))).trans (TM.set (ts := [64]) (show JB (w2.drewN rn2) j d X S C from HB1.out) HJ.out.jge (by simp) 4 (.int .i64 S)))).trans (TM.new ((Mod.refl (fun _ => False) _).drewN nd))
  have R2 : Hid (JS (((w2.drewN rn2).setCell ⟨j, 4, none⟩ (.int .i64 S)).drewN nd) base j d F m st wv ls X S S ∧ TM tJ base w (((w2.drewN rn2).setCell ⟨j, 4, none⟩ (.int .i64 S)).drewN nd)) := ⟨⟨B2, HJ.out.dk.tm T2 (by simp) (by simp), HJ.out.jge⟩, T2.more (by simp)⟩
  clear B2 T2 X2 e4 f4
  generalize ((w2.drewN rn2).setCell ⟨j, 4, none⟩ (.int .i64 S)).drewN nd = w4 at *
  go_wp2_with fail
  go_ret
  exact ⟨rfl, R2.out⟩
end Go.Proofs.Ytdlplablojdjlaa
