/- The reference of flight: Done of a piece that is on the way; no condition. -/
import Derived.Test.YtfdmamaldgpbaaaFrD
import Derived.Test.YtfdmamaldgpbaaaRegO
namespace Go.Proofs.Ytfdmamaldgpbaaa
open Go Go.RowKit

theorem RT.base {w : World} {b base base' : Nat} {most each pat : Int} {ks : List (Int × Rq)} (h : RT w b base' most each pat ks) (h1 : b < base) (h2 : base ≤ base') : RT w b base most each pat ks := by
  obtain ⟨_, a, cap, h3, h4⟩ := h
  exact ⟨h1, a, cap, h3, h4.mono h2⟩
set_option maxRecDepth 100000 in
set_option maxHeartbeats 2000000 in
theorem refDoneYes (k : Int) (r : Rq) (b base : Nat) (most each pat : Int) (ks : List (Int × Rq)) (w : World) (h : RT w b base most each pat ks) (hlen : ks.length ≤ 1000) (hr : Rising ks) (hbase : base ≤ w.heap.size) (hyes : lkL ks k = some r) :
    Calls Try.prog 25 #[.pointer (some ⟨b, 0, none⟩), .int .i64 k] w fun e w' => e = .returned (.tuple #[rqv k r, .int .i64 0]) ∧ RT w' b base most each pat (delL ks k) ∧ Mod (· = b) w w' := by
  obtain ⟨a, cap, _, _, _, c3, f3, he, hbk, ho⟩ := h.at
  have HY := Lib.hid (lk_some_mem hyes)
  have HLK := Lib.hid hyes
  have HR := Lib.hid hr
  have hb : b < w.heap.size := World.block_lt_of_cell? w _ c3
  have HLT := Lib.hid h.lt
  have hcap : ks.length ≤ cap := by
    obtain ⟨a', cap', hv, h, _⟩ := ho.out.els
    cases hv
    exact h
  clear h hyes hr
  go_enter Try.func25, Try.ntmps25
  go_wp2_with fail
  have m1 : Mod (fun _ => False) w (w.alloc (.cells #[.int .i64 0, .int .i64 0, .int .i64 0] TRq)) := (Mod.refl _ w).alloc _
  have B1 := Lib.hid (Blk.new w #[.int .i64 0, .int .i64 0, .int .i64 0] TRq)
  have E1 := Lib.hid (he.out.new m1)
  have O1 := Lib.hid (owns_new ho.out m1)
  have K1 := Lib.hid (hbk.out.mod m1 (fun h => h))
  have k3 := m1.cell c3 (fun h => h)
  have j3 : (w.alloc (.cells #[.int .i64 0, .int .i64 0, .int .i64 0] TRq)).frozen? ⟨b, 3, none⟩ = false := K1.out.frozen 3
  have M1 := Lib.hid m1
  generalize w.alloc (.cells #[.int .i64 0, .int .i64 0, .int .i64 0] TRq) = w1 at *
  obtain ⟨B, hB⟩ : ∃ B, B = w.heap.size := ⟨_, rfl⟩
  rw [← hB] at B1 hb hbase ⊢
  have HB := Lib.hid hB
  clear he hB c3 m1 hbk ho f3
  go_loopw [6] (fun v wr => ∃ j : Nat, v = .int .i64 j ∧ j ≤ ks.length ∧ Hid (∀ (i : Nat) (q : Int × Rq), i < j → ks[i]? = some q → q.1 ≠ k) ∧ wr = w1) (fun v _ => ks.length - (intOf v).toNat)
  case atStart => exact ⟨0, rfl, Nat.zero_le _, fun i q h => absurd h (Nat.not_lt_zero _), rfl⟩
  case round =>
    obtain ⟨j, rfl, hk, hno, rfl⟩ := hrel
    by_cases hlt : (j : Int) < ks.length
    · obtain ⟨⟨x, r'⟩, hkr⟩ : ∃ q, ks[j]? = some q := ⟨_, List.getElem?_eq_getElem (by omega)⟩
      obtain ⟨X, rfl, p0, p1, p2⟩ := rqEl E1.out (Nat.le_refl _) hkr
      by_cases e : x = k
      · subst e
        have hrr : r' = r := by
          have h1 := lk_of_mem HR.out (List.mem_of_getElem? hkr)
          have h2 := HLK.out
          rw [h1] at h2
          exact Option.some.inj h2
        subst hrr
        have HP := Lib.hid (del_at HR.out hkr)
        have hlt2 : j < ks.length := (List.getElem?_eq_some_iff.1 hkr).1
        clear hkr
        have hx1 : B < wr.heap.size := B1.out.lt
        go_wp2_with fail
        have m2 : Mod (fun _ => False) wr (wr.alloc (.cells #[.int .i64 r'.p, .int .i64 x, .int .i64 r'.t] TRq)) := (Mod.refl _ wr).alloc _
        have C2 := Lib.hid (Blk.new wr #[.int .i64 r'.p, .int .i64 x, .int .i64 r'.t] TRq)
        have B2 := Lib.hid (B1.out.mod m2 (fun h => h))
        have O2 := Lib.hid (owns_new O1.out m2)
        have K2 := Lib.hid (K1.out.mod m2 (fun h => h))
        have c3 := m2.cell k3 (fun h => h)
        have M2 := Lib.hid m2
        obtain ⟨w2, hw2⟩ : ∃ w2, w2 = wr.alloc (.cells #[.int .i64 r'.p, .int .i64 x, .int .i64 r'.t] TRq) := ⟨_, rfl⟩
        have hx2 : wr.heap.size < w2.heap.size := by rw [hw2]; simp
        rw [← hw2] at B2 O2 K2 c3 M2 C2 ⊢
        obtain ⟨D, hD⟩ : ∃ D, D = wr.heap.size := ⟨_, rfl⟩
        rw [← hD] at C2 hx1 hx2 ⊢
        have HD := Lib.hid hD
        clear m2 p0 p1 p2 hw2 hD k3 j3
        have TK := Lib.hid (rqL_takeN ks j)
        obtain ⟨j1, hj1⟩ : ∃ j1, j1 = j + 1 := ⟨_, rfl⟩
        rw [← hj1] at HP
        have hj1i : (j : Int) + 1 = (j1 : Int) := by omega
        have hwr : IntKind.i64.wrap (j1 : Int) = (j1 : Int) := by unfold IntKind.wrap; simp [IntKind.bits, IntKind.signed]; omega
        have TD := Lib.hid (rqL_dropN ks j1)
        have hjc : (j : Int) ≤ cap := by omega
        have hjc2 : (j1 : Int) ≤ cap := by omega
        have hjn2 : (j1 : Int) ≤ ks.length := by omega
        have HJ1 := Lib.hid hj1
        clear hj1
        have hjc3 : (ks.length : Int) ≤ cap := by omega
        refine wp_regionO2 [0, 2, 3, 4, 5, 6, 7, 9, 10, 11, 12, 13, 14, 15, 1, 8, 16, 17, 18, 19] [(4, 3), (10, 3), (14, 4), (15, 4)] [] (by kernel_rfl) (by kernel_rfl) (by simp only [List.filterMap_cons, List.filterMap_nil, List.getElem?_cons_zero, List.getElem?_cons_succ]; exact rfl) ?_
        repeat (first | (refine reg_anyT (by rfl) (fun K hK => ?_); go_simp; refine hK _ _ ?_; clear hK K) | (refine reg_read (by rfl) (fun K hK => ?_); go_simp; refine hK _ _ ?_; clear hK K))
        refine reg_hold_v (by rfl) (by rfl) (.slice (some X) ks.length cap) (fun w' hw' => q_load _ _ _ rfl rfl Try.isAgg36 (hw'.cell c3)) ?_
        repeat (first | (refine reg_anyT (by rfl) (fun K hK => ?_); go_simp; refine hK _ _ ?_; clear hK K) | (refine reg_read (by rfl) (fun K hK => ?_); go_simp; refine hK _ _ ?_; clear hK K))
        refine reg_hold_v (by rfl) (by rfl) (.slice (some X) ks.length cap) (fun w' hw' => q_load _ _ _ rfl rfl Try.isAgg36 (hw'.cell c3)) ?_
        repeat (first | (refine reg_anyT (by rfl) (fun K hK => ?_); go_simp; refine hK _ _ ?_; clear hK K) | (refine reg_read (by rfl) (fun K hK => ?_); go_simp; refine hK _ _ ?_; clear hK K))
        have hB0 : base ≤ w2.heap.size := by omega
        refine reg_new (by rfl) (fun rn K hK => ?_); go_simp
        refine hK _ _ ⟨((Mod.refl (fun _ => False) (w2.drewN rn)).alloc (.cells #[] TRq)).ex, ?_⟩; clear hK K
        have ma : Mod (fun _ => False) w2 ((w2.drewN rn).alloc (.cells #[] TRq)) := ((Mod.refl _ w2).drewN rn).alloc _
        have ga : Blk ((w2.drewN rn).alloc (.cells #[] TRq)) w2.heap.size #[] TRq := Blk.new (w2.drewN rn) _ _
        refine reg_app0 (base := w2.heap.size) (by rfl) (by rfl) (.tmp 35) (.tmp 41) 36 TRq 3 rfl Try.underlying36 infoRq rfl (by decide) w2.heap.size _ j (rqL (ks.take j)) (Nat.le_refl _) ga rfl rfl (by rw [TK.out]; exact (((O2.out.sl).mod ma (fun _ _ _ _ h => h)).head (by omega))) (rqL_one _) (by decide) (by omega) ?_
        intro v1 w3 o1 n1 a1
        have N1 := Lib.hid (ma.trans n1)
        have O3 := Lib.hid o1
        clear o1 n1 a1 ma ga
        refine reg_app (base := w2.heap.size) (by rfl) (by rfl) (.tmp 42) (.tmp 49) 36 TRq 3 rfl Try.underlying36 infoRq rfl (by decide) _ _ _ _ (ks.length - j1) (rqL (ks.drop j1)) N1.out.size O3.out rfl rfl (by rw [TD.out]; first | exact (O2.out.sl.mod N1.out (fun _ _ _ _ h => h)).tail (by omega) hcap | exact (O2.out.sl.mod N1.out (fun _ _ _ _ h => h)).tailN (by omega) hcap) (rqL_one _) (by decide) (by omega) ?_
        intro v2 w4 o2 n2 a2
        refine ⟨fun _ => trivial, ?_⟩
        obtain ⟨a3, cap3, rfl, _, _, _⟩ := o2.els
        have O4 := Lib.hid o2
        have ho3 := own_ge O3.out
        have N4 := Lib.hid ((N1.out.mono (S' := (fun i => w2.heap.size ≤ i)) (fun _ _ h => h.elim)).trans (n2.mono (fun i _ h => ho3 i h)))
        have k33 := N4.out.cell c3 (by show ¬ w2.heap.size ≤ b; omega)
        have f33 : w4.frozen? ⟨b, 3, none⟩ = false := by rw [N4.out.frozen (by show b < w2.heap.size; omega) (by show ¬ w2.heap.size ≤ b; omega)]; exact K2.out.frozen 3
        have B4 := Lib.hid (B2.out.mod N4.out (by show ¬ w2.heap.size ≤ B; omega))
        have C4 := Lib.hid (C2.out.mod N4.out (by show ¬ w2.heap.size ≤ D; omega))
        have K4 := Lib.hid (K2.out.mod N4.out (by show ¬ w2.heap.size ≤ b; omega))
        clear o2 n2 a2 ho3
        repeat (first | (refine reg_anyT (by rfl) (fun K hK => ?_); go_simp; refine hK _ _ ?_; clear hK K) | (refine reg_read (by rfl) (fun K hK => ?_); go_simp; refine hK _ _ ?_; clear hK K))
        refine reg_eff (by rfl) (fun rn K hK => ?_); go_simp; refine hK _ _ ?_; clear hK K
        repeat (first | (refine reg_anyT (by rfl) (fun K hK => ?_); go_simp; refine hK _ _ ?_; clear hK K) | (refine reg_read (by rfl) (fun K hK => ?_); go_simp; refine hK _ _ ?_; clear hK K))
        refine reg_nil (fun nd => ?_)
        have hlenP : (delL ks x).length = j + (ks.length - j1) := by rw [HP.out]; simp; omega
        have hrow : rqL (delL ks x) = rqL (ks.take j) ++ rqL (ks.drop j1) := by rw [HP.out, rqL_append]
        have T5 : Hid (RT (((w4.drewN rn).setCell ⟨b, 3, none⟩ (.slice a3 (j + (ks.length - j1)) cap3)).drewN nd) b w2.heap.size most each pat (delL ks x)) := by
          refine ⟨by omega, a3, cap3, ?_, ?_⟩
          · rw [hlenP]
            exact (show Blk (w4.drewN rn) b _ _ from K4.out).set 3 (.slice a3 (j + (ks.length - j1)) cap3)
          · rw [hlenP, hrow]
            exact owns_mod (S := (· = b)) O4.out ((((Mod.refl _ w4).drewN rn).set1 3 _).drewN nd) (fun i hi e => by omega)
        have M5 := Lib.hid (((((M1.out.trans M2.out).mono (S' := (· = b)) (fun _ _ h => h.elim)).trans (N4.out.mono (S' := (· = b)) (fun i hi (h : w2.heap.size ≤ i) => by omega))).drewN rn).set1 3 (.slice a3 (j + (ks.length - j1)) cap3) |>.drewN nd)
        have B5 := Lib.hid (show Blk (((w4.drewN rn).setCell ⟨b, 3, none⟩ (.slice a3 (j + (ks.length - j1)) cap3)).drewN nd) B _ _ from (show Blk (w4.drewN rn) B _ _ from B4.out).setOther (by show b ≠ B; omega) _)
        have C5 := Lib.hid (show Blk (((w4.drewN rn).setCell ⟨b, 3, none⟩ (.slice a3 (j + (ks.length - j1)) cap3)).drewN nd) D _ _ from (show Blk (w4.drewN rn) D _ _ from C4.out).setOther (by show b ≠ D; omega) _)
        generalize ((w4.drewN rn).setCell ⟨b, 3, none⟩ (.slice a3 (j + (ks.length - j1)) cap3)).drewN nd = w5 at *
        have f0 := B5.out.frozen 0; have f1 := B5.out.frozen 1; have f2 := B5.out.frozen 2
        have x0 := B5.out.cell 0; have x1 := B5.out.cell 1; have x2 := B5.out.cell 2
        have y0 := C5.out.cell 0; have y1 := C5.out.cell 1; have y2 := C5.out.cell 2
        have d0 := (B5.out.set 0 (.int .i64 r'.p)).cell 0
        have d1 := ((B5.out.set 0 (.int .i64 r'.p)).set 1 (.int .i64 x)).cell 1
        have d2 := (((B5.out.set 0 (.int .i64 r'.p)).set 1 (.int .i64 x)).set 2 (.int .i64 r'.t)).cell 2
        have D0 := Lib.hid d0; have D1 := Lib.hid d1; have D2 := Lib.hid d2
        clear d0 d1 d2 hlenP hrow k33 f33 c3
        go_wp2_with fail
        all_goals (
          refine bodyPost_ret (v := .tuple #[.agg #[.int .i64 r'.p, .int .i64 x, .int .i64 r'.t], .int .i64 0]) (by simp [results, Try.results25, go_sem, D0.out, D1.out, D2.out]) rfl ⟨rfl, ?_, ?_⟩
          · have hs := (((Mod.refl (fun i => i = B) w5).set1 0 (.int .i64 r'.p)).set1 1 (.int .i64 x)).set1 2 (.int .i64 r'.t)
            exact (T5.out.mod hs (by show ¬ b = B; omega) (fun i hi e => by omega)).base HLT.out hB0
          · exact ((M5.out.setCell (.inr (Nat.le_of_eq HB.out.symm)) _).setCell (.inr (Nat.le_of_eq HB.out.symm)) _).setCell (.inr (Nat.le_of_eq HB.out.symm)) _)
      · have e' : (x == k) = false := by simpa using e
        have HN : Hid (∀ (i : Nat) (q : Int × Rq), i < j + 1 → ks[i]? = some q → q.1 ≠ k) := by
          intro i q hi hq
          by_cases ei : i = j
          · subst ei
            rw [hkr] at hq
            cases hq
            exact e
          · exact hno.out i q (by omega) hq
        clear hkr e
        go_wp2_with fail
        exact ⟨⟨j + 1, by go_num, by omega, HN, by first | trivial | rfl⟩, by simp [intOf]; omega⟩
    · exfalso
      obtain ⟨i, hi⟩ := List.getElem?_of_mem HY.out
      have := (List.getElem?_eq_some_iff.1 hi).1
      exact hno.out i _ (by omega) hi rfl
end Go.Proofs.Ytfdmamaldgpbaaa
