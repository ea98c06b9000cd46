/- Texts of this claim, laid together by a program of its own: FrE, FrF, FrG, FwA, BitsM, BitsA, BitsB, BitsS, BitsR, Pop, BitsC, BitsN, BitsH, RefB. Each says in its first row what it proves. -/
import Derived.WalkKit
import Derived.Laws.Bits64
import Derived.Laws.Bits64b
import Derived.Test.YtjmfhcliggjdgaaGreatDoorRows
import Derived.WalkSpells
import Derived.WalkLawsBesides
import Derived.Lib.Hide
import Derived.Laws.MakeOwn
import Derived.Deep.QuietTactic
import Derived.BigQuiet
import Derived.Laws.BytesString
import Derived.Laws.Cells
import Derived.Shelf.Spec.TrailingZeros
import Derived.Test.YtjmfhcliggjdgaaGreatDoorQ2
/- The reference of flight: Done of a piece that is on the way; no condition. -/
namespace Go.Proofs.YtjmfhcliggjdgaaGreatDoor.Fl
open Go Go.RowKit

set_option maxRecDepth 100000 in
set_option maxHeartbeats 2000000 in
theorem refDoneYes (k : Int) (r : Rq) (b base : Nat) (most each pat : Int) (ks : List (Int × Rq)) (w : World) (h : RT w b base most each pat ks) (hlen : ks.length ≤ 1000) (hr : Rising ks) (hyes : lkL ks k = some r) :
    Calls Tryz.prog 73 #[.pointer (some ⟨b, 0, none⟩), .int .i64 k] w fun e w' => e = .returned (.tuple #[rqv k r, .int .i64 0]) ∧ RT w' b w.heap.size most each pat (delL ks k) ∧ Mod (· = b) w w' := by
  obtain ⟨a, cap, _, _, _, c3, f3, he, hbk, ho⟩ := h.at
  have HY := Lib.hid (lk_some_mem hyes)
  have HLK := Lib.hid hyes
  have HR := Lib.hid hr
  have hb : b < w.heap.size := World.block_lt_of_cell? w _ c3
  have HLT := Lib.hid h.lt
  have hcap : ks.length ≤ cap := by
    obtain ⟨a', cap', hv, h, _⟩ := ho.out.els
    cases hv
    exact h
  clear h hyes hr
  go_enter Tryz.func73, Tryz.ntmps73
  go_wp2_with fail
  have m1 : Mod (fun _ => False) w (w.alloc (.cells #[.int .i64 0, .int .i64 0, .int .i64 0] TRq)) := (Mod.refl _ w).alloc _
  have B1 := Lib.hid (Blk.new w #[.int .i64 0, .int .i64 0, .int .i64 0] TRq)
  have E1 := Lib.hid (he.out.new m1)
  have O1 := Lib.hid (owns_new ho.out m1)
  have K1 := Lib.hid (hbk.out.mod m1 (fun h => h))
  have k3 := m1.cell c3 (fun h => h)
  have j3 : (w.alloc (.cells #[.int .i64 0, .int .i64 0, .int .i64 0] TRq)).frozen? ⟨b, 3, none⟩ = false := K1.out.frozen 3
  have M1 := Lib.hid m1
  generalize w.alloc (.cells #[.int .i64 0, .int .i64 0, .int .i64 0] TRq) = w1 at *
  obtain ⟨B, hB⟩ : ∃ B, B = w.heap.size := ⟨_, rfl⟩
  rw [← hB] at B1 hb ⊢
  have HB := Lib.hid hB
  clear he hB c3 m1 hbk ho f3
  go_loopw [6] (fun v wr => ∃ j : Nat, v = .int .i64 j ∧ j ≤ ks.length ∧ Hid (∀ (i : Nat) (q : Int × Rq), i < j → ks[i]? = some q → q.1 ≠ k) ∧ wr = w1) (fun v _ => ks.length - (intOf v).toNat)
  case atStart => exact ⟨0, rfl, Nat.zero_le _, fun i q h => absurd h (Nat.not_lt_zero _), rfl⟩
  case round =>
    obtain ⟨j, rfl, hk, hno, rfl⟩ := hrel
    by_cases hlt : (j : Int) < ks.length
    · obtain ⟨⟨x, r'⟩, hkr⟩ : ∃ q, ks[j]? = some q := ⟨_, List.getElem?_eq_getElem (by omega)⟩
      obtain ⟨X, rfl, p0, p1, p2⟩ := rqEl E1.out (Nat.le_refl _) hkr
      by_cases e : x = k
      · subst e
        have hrr : r' = r := by
          have h1 := lk_of_mem HR.out (List.mem_of_getElem? hkr)
          have h2 := HLK.out
          rw [h1] at h2
          exact Option.some.inj h2
        subst hrr
        have HP := Lib.hid (del_at HR.out hkr)
        have hlt2 : j < ks.length := (List.getElem?_eq_some_iff.1 hkr).1
        clear hkr
        have hx1 : B < wr.heap.size := B1.out.lt
        go_wp2_with fail
        have m2 : Mod (fun _ => False) wr (wr.alloc (.cells #[.int .i64 r'.p, .int .i64 x, .int .i64 r'.t] TRq)) := (Mod.refl _ wr).alloc _
        have C2 := Lib.hid (Blk.new wr #[.int .i64 r'.p, .int .i64 x, .int .i64 r'.t] TRq)
        have B2 := Lib.hid (B1.out.mod m2 (fun h => h))
        have O2 := Lib.hid (owns_new O1.out m2)
        have K2 := Lib.hid (K1.out.mod m2 (fun h => h))
        have c3 := m2.cell k3 (fun h => h)
        have M2 := Lib.hid m2
        obtain ⟨w2, hw2⟩ : ∃ w2, w2 = wr.alloc (.cells #[.int .i64 r'.p, .int .i64 x, .int .i64 r'.t] TRq) := ⟨_, rfl⟩
        have hx2 : wr.heap.size < w2.heap.size := by rw [hw2]; simp
        rw [← hw2] at B2 O2 K2 c3 M2 C2 ⊢
        obtain ⟨D, hD⟩ : ∃ D, D = wr.heap.size := ⟨_, rfl⟩
        rw [← hD] at C2 hx1 hx2 ⊢
        have HD := Lib.hid hD
        clear m2 p0 p1 p2 hw2 hD k3 j3
        have TK := Lib.hid (rqL_takeN ks j)
        obtain ⟨j1, hj1⟩ : ∃ j1, j1 = j + 1 := ⟨_, rfl⟩
        rw [← hj1] at HP
        have hj1i : (j : Int) + 1 = (j1 : Int) := by omega
        have hwr : IntKind.i64.wrap (j1 : Int) = (j1 : Int) := by unfold IntKind.wrap; simp [IntKind.bits, IntKind.signed]; omega
        have TD := Lib.hid (rqL_dropN ks j1)
        have hjc : (j : Int) ≤ cap := by omega
        have hjc2 : (j1 : Int) ≤ cap := by omega
        have hjn2 : (j1 : Int) ≤ ks.length := by omega
        have HJ1 := Lib.hid hj1
        clear hj1
        have hjc3 : (ks.length : Int) ≤ cap := by omega
        refine wp_regionO2 [0, 2, 3, 4, 5, 6, 7, 9, 10, 11, 12, 13, 14, 15, 1, 8, 16, 17, 18, 19] [(4, 3), (10, 3), (14, 4), (15, 4)] [] (by kernel_rfl) (by kernel_rfl) (by simp only [List.filterMap_cons, List.filterMap_nil, List.getElem?_cons_zero, List.getElem?_cons_succ]; exact rfl) ?_
        repeat (first | (refine reg_anyT (by rfl) (fun K hK => ?_); go_simp; refine hK _ _ ?_; clear hK K) | (refine reg_read (by rfl) (fun K hK => ?_); go_simp; refine hK _ _ ?_; clear hK K))
        refine reg_hold_v (by rfl) (by rfl) (.slice (some X) ks.length cap) (fun w' hw' => q_load _ _ _ rfl rfl Tryz.isAgg39 (hw'.cell c3)) ?_
        repeat (first | (refine reg_anyT (by rfl) (fun K hK => ?_); go_simp; refine hK _ _ ?_; clear hK K) | (refine reg_read (by rfl) (fun K hK => ?_); go_simp; refine hK _ _ ?_; clear hK K))
        refine reg_hold_v (by rfl) (by rfl) (.slice (some X) ks.length cap) (fun w' hw' => q_load _ _ _ rfl rfl Tryz.isAgg39 (hw'.cell c3)) ?_
        repeat (first | (refine reg_anyT (by rfl) (fun K hK => ?_); go_simp; refine hK _ _ ?_; clear hK K) | (refine reg_read (by rfl) (fun K hK => ?_); go_simp; refine hK _ _ ?_; clear hK K))
        refine reg_new (by rfl) (fun rn K hK => ?_); go_simp
        refine hK _ _ ⟨((Mod.refl (fun _ => False) (w2.drewN rn)).alloc (.cells #[] TRq)).ex, ?_⟩; clear hK K
        have ma : Mod (fun _ => False) w2 ((w2.drewN rn).alloc (.cells #[] TRq)) := ((Mod.refl _ w2).drewN rn).alloc _
        have ga : Blk ((w2.drewN rn).alloc (.cells #[] TRq)) w2.heap.size #[] TRq := Blk.new (w2.drewN rn) _ _
        refine reg_app0 (base := w2.heap.size) (by rfl) (by rfl) (.tmp 35) (.tmp 41) 39 TRq 3 rfl Tryz.underlying39 infoRq rfl (by decide) w2.heap.size _ j (rqL (ks.take j)) (Nat.le_refl _) ga rfl rfl (by rw [TK.out]; exact (((O2.out.sl).mod ma (fun _ _ _ _ h => h)).head (by omega))) (rqL_one _) (by decide) (by omega) ?_
        intro v1 w3 o1 n1 a1
        have N1 := Lib.hid (ma.trans n1)
        have O3 := Lib.hid o1
        clear o1 n1 a1 ma ga
        refine reg_app (base := w2.heap.size) (by rfl) (by rfl) (.tmp 42) (.tmp 49) 39 TRq 3 rfl Tryz.underlying39 infoRq rfl (by decide) _ _ _ _ (ks.length - j1) (rqL (ks.drop j1)) N1.out.size O3.out rfl rfl (by rw [TD.out]; first | exact (O2.out.sl.mod N1.out (fun _ _ _ _ h => h)).tail (by omega) hcap | exact (O2.out.sl.mod N1.out (fun _ _ _ _ h => h)).tailN (by omega) hcap) (rqL_one _) (by decide) (by omega) ?_
        intro v2 w4 o2 n2 a2
        refine ⟨fun _ => trivial, ?_⟩
        obtain ⟨a3, cap3, rfl, _, _, _⟩ := o2.els
        have O4 := Lib.hid o2
        have ho3 := own_ge O3.out
        have N4 := Lib.hid ((N1.out.mono (S' := (fun i => w2.heap.size ≤ i)) (fun _ _ h => h.elim)).trans (n2.mono (fun i _ h => ho3 i h)))
        have k33 := N4.out.cell c3 (by show ¬ w2.heap.size ≤ b; omega)
        have f33 : w4.frozen? ⟨b, 3, none⟩ = false := by rw [N4.out.frozen (by show b < w2.heap.size; omega) (by show ¬ w2.heap.size ≤ b; omega)]; exact K2.out.frozen 3
        have B4 := Lib.hid (B2.out.mod N4.out (by show ¬ w2.heap.size ≤ B; omega))
        have C4 := Lib.hid (C2.out.mod N4.out (by show ¬ w2.heap.size ≤ D; omega))
        have K4 := Lib.hid (K2.out.mod N4.out (by show ¬ w2.heap.size ≤ b; omega))
        clear o2 n2 a2 ho3
        repeat (first | (refine reg_anyT (by rfl) (fun K hK => ?_); go_simp; refine hK _ _ ?_; clear hK K) | (refine reg_read (by rfl) (fun K hK => ?_); go_simp; refine hK _ _ ?_; clear hK K))
        refine reg_eff (by rfl) (fun rn K hK => ?_); go_simp; refine hK _ _ ?_; clear hK K
        repeat (first | (refine reg_anyT (by rfl) (fun K hK => ?_); go_simp; refine hK _ _ ?_; clear hK K) | (refine reg_read (by rfl) (fun K hK => ?_); go_simp; refine hK _ _ ?_; clear hK K))
        refine reg_nil (fun nd => ?_)
        have hlenP : (delL ks x).length = j + (ks.length - j1) := by rw [HP.out]; simp; omega
        have hrow : rqL (delL ks x) = rqL (ks.take j) ++ rqL (ks.drop j1) := by rw [HP.out, rqL_append]
        have T5 : Hid (RT (((w4.drewN rn).setCell ⟨b, 3, none⟩ (.slice a3 (j + (ks.length - j1)) cap3)).drewN nd) b w2.heap.size most each pat (delL ks x)) := by
          refine ⟨by omega, a3, cap3, ?_, ?_⟩
          · rw [hlenP]
            exact (show Blk (w4.drewN rn) b _ _ from K4.out).set 3 (.slice a3 (j + (ks.length - j1)) cap3)
          · rw [hlenP, hrow]
            exact owns_mod (S := (· = b)) O4.out ((((Mod.refl _ w4).drewN rn).set1 3 _).drewN nd) (fun i hi e => by omega)
        have M5 := Lib.hid (((((M1.out.trans M2.out).mono (S' := (· = b)) (fun _ _ h => h.elim)).trans (N4.out.mono (S' := (· = b)) (fun i hi (h : w2.heap.size ≤ i) => by omega))).drewN rn).set1 3 (.slice a3 (j + (ks.length - j1)) cap3) |>.drewN nd)
        have B5 := Lib.hid (show Blk (((w4.drewN rn).setCell ⟨b, 3, none⟩ (.slice a3 (j + (ks.length - j1)) cap3)).drewN nd) B _ _ from (show Blk (w4.drewN rn) B _ _ from B4.out).setOther (by show b ≠ B; omega) _)
        have C5 := Lib.hid (show Blk (((w4.drewN rn).setCell ⟨b, 3, none⟩ (.slice a3 (j + (ks.length - j1)) cap3)).drewN nd) D _ _ from (show Blk (w4.drewN rn) D _ _ from C4.out).setOther (by show b ≠ D; omega) _)
        generalize ((w4.drewN rn).setCell ⟨b, 3, none⟩ (.slice a3 (j + (ks.length - j1)) cap3)).drewN nd = w5 at *
        have f0 := B5.out.frozen 0; have f1 := B5.out.frozen 1; have f2 := B5.out.frozen 2
        have x0 := B5.out.cell 0; have x1 := B5.out.cell 1; have x2 := B5.out.cell 2
        have y0 := C5.out.cell 0; have y1 := C5.out.cell 1; have y2 := C5.out.cell 2
        have d0 := (B5.out.set 0 (.int .i64 r'.p)).cell 0
        have d1 := ((B5.out.set 0 (.int .i64 r'.p)).set 1 (.int .i64 x)).cell 1
        have d2 := (((B5.out.set 0 (.int .i64 r'.p)).set 1 (.int .i64 x)).set 2 (.int .i64 r'.t)).cell 2
        have D0 := Lib.hid d0; have D1 := Lib.hid d1; have D2 := Lib.hid d2
        clear d0 d1 d2 hlenP hrow k33 f33 c3
        go_wp2_with fail
        all_goals (
          refine bodyPost_ret (v := .tuple #[.agg #[.int .i64 r'.p, .int .i64 x, .int .i64 r'.t], .int .i64 0]) (by simp [results, Tryz.results73, go_sem, D0.out, D1.out, D2.out]) rfl ⟨rfl, ?_, ?_⟩
          · have hs := (((Mod.refl (fun i => i = B) w5).set1 0 (.int .i64 r'.p)).set1 1 (.int .i64 x)).set1 2 (.int .i64 r'.t)
            exact (T5.out.mod hs (by show ¬ b = B; omega) (fun i hi e => by omega)).base (by have := HB.out; omega) (by have := M1.out.size; have := M2.out.size; omega)
          · exact ((M5.out.setCell (.inr (Nat.le_of_eq HB.out.symm)) _).setCell (.inr (Nat.le_of_eq HB.out.symm)) _).setCell (.inr (Nat.le_of_eq HB.out.symm)) _)
      · have e' : (x == k) = false := by simpa using e
        have HN : Hid (∀ (i : Nat) (q : Int × Rq), i < j + 1 → ks[i]? = some q → q.1 ≠ k) := by
          intro i q hi hq
          by_cases ei : i = j
          · subst ei
            rw [hkr] at hq
            cases hq
            exact e
          · exact hno.out i q (by omega) hq
        clear hkr e
        go_wp2_with fail
        exact ⟨⟨j + 1, by go_num, by omega, HN, by first | trivial | rfl⟩, by simp [intOf]; omega⟩
    · exfalso
      obtain ⟨i, hi⟩ := List.getElem?_of_mem HY.out
      have := (List.getElem?_eq_some_iff.1 hi).1
      exact hno.out i _ (by omega) hi rfl
end Go.Proofs.YtjmfhcliggjdgaaGreatDoor.Fl

/- The reference of flight: Drop, Late; no condition. -/
namespace Go.Proofs.YtjmfhcliggjdgaaGreatDoor.Fl
open Go Go.RowKit

theorem rqL_snoc (l : List (Int × Rq)) (x : Int) (r : Rq) : rqL (l ++ [(x, r)]) = rqL l ++ [.int .i64 r.p, .int .i64 x, .int .i64 r.t] := by rw [rqL_append, rq_one]

set_option maxRecDepth 100000 in
set_option maxHeartbeats 2000000 in
theorem refDrop (q : Int) (b base : Nat) (most each pat : Int) (ks : List (Int × Rq)) (w : World) (h : RT w b base most each pat ks) (hlen : ks.length ≤ 1000) :
    Calls Tryz.prog 64 #[.pointer (some ⟨b, 0, none⟩), .int .i64 q] w fun e w' => (∃ v, e = .returned v ∧ w'.ownsRow w.heap.size TRq 3 v (ks.filter fun x => x.2.p == q).length (rqL (ks.filter fun x => x.2.p == q))) ∧ RT w' b w.heap.size most each pat (ks.filter fun x => !(x.2.p == q)) ∧ Mod (· = b) w w' := by
  obtain ⟨a, cap, _, _, _, c3, f3, he, hbk, ho⟩ := h.at
  have hb : b < w.heap.size := World.block_lt_of_cell? w _ c3
  obtain ⟨φ, hφ⟩ : ∃ φ : Int × Rq → Bool, φ = fun x => x.2.p == q := ⟨_, rfl⟩
  have HPHI := Lib.hid hφ
  rw [show (ks.filter fun x => x.2.p == q) = ks.filter φ by rw [hφ], show (ks.filter fun x => !(x.2.p == q)) = ks.filter (fun x => !φ x) by rw [hφ]]
  clear h hφ
  go_enter Tryz.func64, Tryz.ntmps64
  go_wp2_with fail
  go_loopw [5, 6, 7] (fun v u i wr => ∃ k : Nat, i = .int .i64 k ∧ k ≤ ks.length ∧ Hid (wr.ownsRow w.heap.size TRq 3 v ((ks.take k).filter φ).length (rqL ((ks.take k).filter φ))) ∧ Hid (wr.ownsRow w.heap.size TRq 3 u ((ks.take k).filter fun x => !φ x).length (rqL ((ks.take k).filter fun x => !φ x))) ∧ Hid (Apart v u) ∧ Mod (fun _ => False) w wr) (fun _ _ i _ => ks.length - (intOf i).toNat)
  case atStart => exact ⟨0, rfl, Nat.zero_le _, World.ownsRow_nil _ _ _ _, World.ownsRow_nil _ _ _ _, Apart.nil _, Mod.refl _ _⟩
  case round =>
    obtain ⟨k, rfl, hk, ho1, ho2, hap, hm⟩ := hrel
    have k3 := hm.cell c3 (fun h => h)
    by_cases hlt : (k : Int) < ks.length
    · obtain ⟨⟨x, r⟩, hkr⟩ : ∃ q, ks[k]? = some q := ⟨_, List.getElem?_eq_getElem (by omega)⟩
      obtain ⟨X, rfl, p0, p1, p2⟩ := rqEl (he.out.new hm) (Nat.le_refl _) hkr
      have F1 := Lib.hid (filter_take φ ks k (x, r) hkr)
      have F2 := Lib.hid (filter_take (fun x => !φ x) ks k (x, r) hkr)
      have hl1 : ((ks.take k).filter φ).length ≤ 1000 := by
        have := List.length_filter_le φ (ks.take k)
        have h2 : (ks.take k).length ≤ k := List.length_take_le _ _
        omega
      have hl2 : ((ks.take k).filter fun x => !φ x).length ≤ 1000 := by
        have := List.length_filter_le (fun x => !φ x) (ks.take k)
        have h2 : (ks.take k).length ≤ k := List.length_take_le _ _
        omega
      have hphi : φ (x, r) = (r.p == q) := by rw [HPHI.out]
      have hk1 : ks.length - (k + 1) < ks.length - k := by omega
      clear hkr
      by_cases e : r.p = q
      · have e' : (r.p == q) = true := by simpa using e
        have FT : Hid (φ (x, r) = true) := hphi.trans e'
        clear hphi e
        go_wp2_with (at_builtin; refine app1 (base := w.heap.size) rfl (.tmp 27) (.tmp 35) 39 TRq 3 rfl Tryz.underlying39 infoRq rfl (by decide) _ _ _ _ 1 [.int .i64 r.p, .int .i64 x, .int .i64 r.t] (by have := hm.size; simp; omega) (ho1.out.alloc _) rfl rfl (sl_new wr _ _) (by simp [Value.oneCell']) (by decide) (by omega) ?_; intro v' w' g1 g2 g3
                     have G1 := Lib.hid g1
                     have G2 := Lib.hid (((Mod.refl (fun i => u5.ownBlock = some i) wr).alloc (.cells #[.int .i64 r.p, .int .i64 x, .int .i64 r.t] TRq)).trans g2)
                     have G3 := Lib.hid g3
                     clear g1 g2 g3)
        refine ⟨⟨k + 1, by go_num, by omega, ?_, ?_, G3.out |> Apart.step hap.out ho2.out (by simp), (hm.new (G2.out) (own_ge ho1.out))⟩, by simp [intOf]; omega⟩
        · show World.ownsRow _ _ _ _ _ _ _
          rw [F1.out, FT.out, if_pos rfl, rqL_snoc]
          simpa using G1.out
        · show World.ownsRow _ _ _ _ _ _ _
          rw [F2.out, FT.out]
          simpa using owns_apart ho2.out G2.out hap.out
      · have e' : (r.p == q) = false := by simpa using e
        have FT : Hid (φ (x, r) = false) := hphi.trans e'
        clear hphi e
        go_wp2_with (at_builtin; refine app1 (base := w.heap.size) rfl (.tmp 37) (.tmp 45) 39 TRq 3 rfl Tryz.underlying39 infoRq rfl (by decide) _ _ _ _ 1 [.int .i64 r.p, .int .i64 x, .int .i64 r.t] (by have := hm.size; simp; omega) (ho2.out.alloc _) rfl rfl (sl_new wr _ _) (by simp [Value.oneCell']) (by decide) (by omega) ?_; intro v' w' g1 g2 g3
                     have G1 := Lib.hid g1
                     have G2 := Lib.hid (((Mod.refl (fun i => u6.ownBlock = some i) wr).alloc (.cells #[.int .i64 r.p, .int .i64 x, .int .i64 r.t] TRq)).trans g2)
                     have G3 := Lib.hid g3
                     clear g1 g2 g3)
        refine ⟨⟨k + 1, by go_num, by omega, ?_, ?_, (G3.out |> Apart.step hap.out.symm ho1.out (by simp)).symm, (hm.new (G2.out) (own_ge ho2.out))⟩, by simp [intOf]; omega⟩
        · show World.ownsRow _ _ _ _ _ _ _
          rw [F1.out, FT.out]
          simpa using owns_apart ho1.out G2.out hap.out.symm
        · show World.ownsRow _ _ _ _ _ _ _
          rw [F2.out, FT.out, Bool.not_false, if_pos rfl, rqL_snoc]
          simpa using G1.out
    · have hkn : k = ks.length := by omega
      have h1 := ho1.out
      have h2 := ho2.out
      rw [hkn, List.take_length] at h1 h2
      obtain ⟨a3, cap3, rfl, _, _, _⟩ := h2.els
      have O1 := Lib.hid h1
      have O2 := Lib.hid h2
      have f33 : wr.frozen? ⟨b, 3, none⟩ = false := by rw [hm.frozen (by show b < _; omega) (fun h => h)]; exact f3
      have HB := Lib.hid (hbk.out.mod hm (fun h => h))
      clear h1 h2 ho1 ho2 hkn
      go_wp2_with fail
      go_ret
      refine ⟨⟨_, rfl, ?_⟩, ⟨hb, a3, cap3, HB.out.set 3 _, ?_⟩, (hm.mono (fun _ _ h => h.elim)).set1 3 _⟩
      · exact owns_mod (S := (· = b)) O1.out ((Mod.refl _ wr).set1 3 _) (fun i hi e => by omega)
      · exact owns_mod (S := (· = b)) O2.out ((Mod.refl _ wr).set1 3 _) (fun i hi e => by omega)
end Go.Proofs.YtjmfhcliggjdgaaGreatDoor.Fl

/- The reference of flight: Late; no condition. -/
namespace Go.Proofs.YtjmfhcliggjdgaaGreatDoor.Fl
open Go Go.RowKit

set_option maxRecDepth 100000 in
set_option maxHeartbeats 400000 in
theorem refLateBad (q : Int) (b : Nat) (w : World) (hq : ¬ (0 ≤ q ∧ q ≤ 1099511627776)) :
    Calls Tryz.prog 23 #[.pointer (some ⟨b, 0, none⟩), .int .i64 q] w fun e w' => e = .returned (.tuple #[.slice none 0 0, .int .i64 1]) ∧ w = w' := by
  have e1 : (decide (0 ≤ q) && decide (q ≤ 1099511627776)) = false := by
    rw [Bool.and_eq_false_iff, decide_eq_false_iff_not, decide_eq_false_iff_not]; omega
  clear hq
  go_enter Tryz.func23, Tryz.ntmps23
  go_wp2_with fail
  refine (refMoment _ _).mono ?_; rw [e1]; rintro e w' ⟨rfl, rfl⟩
  go_wp2_with fail
  go_ret2
  exact ⟨rfl, rfl⟩
set_option maxRecDepth 100000 in
set_option maxHeartbeats 2000000 in
theorem refLate (q : Int) (b base : Nat) (most each pat : Int) (ks : List (Int × Rq)) (w : World) (h : RT w b base most each pat ks) (hlen : ks.length ≤ 1000) (hq : 0 ≤ q ∧ q ≤ 1099511627776) (ht : ∀ q ∈ ks, 0 ≤ q.2.t ∧ q.2.t ≤ 1099511627776) :
    Calls Tryz.prog 23 #[.pointer (some ⟨b, 0, none⟩), .int .i64 q] w fun e w' => (∃ v, e = .returned (.tuple #[v, .int .i64 0]) ∧ w'.ownsRow w.heap.size TRq 3 v (ks.filter fun x => decide (pat ≤ q - x.2.t)).length (rqL (ks.filter fun x => decide (pat ≤ q - x.2.t)))) ∧ RT w' b w.heap.size most each pat (ks.filter fun x => !(decide (pat ≤ q - x.2.t))) ∧ Mod (· = b) w w' := by
  obtain ⟨a, cap, _, _, c2, c3, f3, he, hbk, ho⟩ := h.at
  have e1 : (decide (0 ≤ q) && decide (q ≤ 1099511627776)) = true := by simp [hq.1, hq.2]
  have HTT := Lib.hid ht
  have hb : b < w.heap.size := World.block_lt_of_cell? w _ c3
  obtain ⟨φ, hφ⟩ : ∃ φ : Int × Rq → Bool, φ = fun x => decide (pat ≤ q - x.2.t) := ⟨_, rfl⟩
  have HPHI := Lib.hid hφ
  rw [show (ks.filter fun x => decide (pat ≤ q - x.2.t)) = ks.filter φ by rw [hφ], show (ks.filter fun x => !(decide (pat ≤ q - x.2.t))) = ks.filter (fun x => !φ x) by rw [hφ]]
  clear h hφ ht
  go_enter Tryz.func23, Tryz.ntmps23
  go_wp2_with fail
  refine (refMoment _ _).mono ?_; rw [e1]; rintro e w' ⟨rfl, rfl⟩
  clear e1
  go_wp2_with fail
  go_loopw [7, 8, 9] (fun v u i wr => ∃ k : Nat, i = .int .i64 k ∧ k ≤ ks.length ∧ Hid (wr.ownsRow w.heap.size TRq 3 v ((ks.take k).filter φ).length (rqL ((ks.take k).filter φ))) ∧ Hid (wr.ownsRow w.heap.size TRq 3 u ((ks.take k).filter fun x => !φ x).length (rqL ((ks.take k).filter fun x => !φ x))) ∧ Hid (Apart v u) ∧ Mod (fun _ => False) w wr) (fun _ _ i _ => ks.length - (intOf i).toNat)
  case atStart => exact ⟨0, rfl, Nat.zero_le _, World.ownsRow_nil _ _ _ _, World.ownsRow_nil _ _ _ _, Apart.nil _, Mod.refl _ _⟩
  case round =>
    obtain ⟨k, rfl, hk, ho1, ho2, hap, hm⟩ := hrel
    have k3 := hm.cell c3 (fun h => h)
    have k2 := hm.cell c2 (fun h => h)
    by_cases hlt : (k : Int) < ks.length
    · obtain ⟨⟨x, r⟩, hkr⟩ : ∃ q, ks[k]? = some q := ⟨_, List.getElem?_eq_getElem (by omega)⟩
      obtain ⟨X, rfl, p0, p1, p2⟩ := rqEl (he.out.new hm) (Nat.le_refl _) hkr
      have F1 := Lib.hid (filter_take φ ks k (x, r) hkr)
      have F2 := Lib.hid (filter_take (fun x => !φ x) ks k (x, r) hkr)
      have hl1 : ((ks.take k).filter φ).length ≤ 1000 := by
        have := List.length_filter_le φ (ks.take k)
        have h2 : (ks.take k).length ≤ k := List.length_take_le _ _
        omega
      have hl2 : ((ks.take k).filter fun x => !φ x).length ≤ 1000 := by
        have := List.length_filter_le (fun x => !φ x) (ks.take k)
        have h2 : (ks.take k).length ≤ k := List.length_take_le _ _
        omega
      have hphi : φ (x, r) = decide (pat ≤ q - r.t) := by rw [HPHI.out]
      have hk1 : ks.length - (k + 1) < ks.length - k := by omega
      have hqt := HTT.out _ (List.mem_of_getElem? hkr)
      obtain ⟨d, hd⟩ : ∃ d, d = q - r.t := ⟨_, rfl⟩
      rw [← hd] at hphi
      have hwr : IntKind.i64.wrap (q - r.t) = d := by rw [hd]; unfold IntKind.wrap; simp [IntKind.bits, IntKind.signed]; simp only at hqt; omega
      clear hkr hd hqt
      by_cases e : pat ≤ d
      · have e' : decide (pat ≤ d) = true := by simpa using e
        have FT : Hid (φ (x, r) = true) := hphi.trans e'
        clear hphi
        go_wp2_with fail
        go_quiet (fail)
        obtain ⟨wd, hwd⟩ : ∃ wd, wd = wr.drewN nq := ⟨_, rfl⟩
        have hmd : Mod (fun _ => False) wr wd := by rw [hwd]; exact (Mod.refl _ wr).drewN nq
        rw [← hwd]
        have OD1 := Lib.hid (owns_new ho1.out hmd)
        have OD2 := Lib.hid (owns_new ho2.out hmd)
        have HM := Lib.hid (hm.trans hmd)
        have hmm := HM.out
        have z3 := hmd.cell k3 (fun h => h)
        have z0 := hmd.cell p0 (fun h => h); have z1 := hmd.cell p1 (fun h => h); have z2 := hmd.cell p2 (fun h => h)
        clear hwd hm
        go_wp2_with (at_builtin; refine app1 (base := w.heap.size) rfl (.tmp 38) (.tmp 46) 39 TRq 3 rfl Tryz.underlying39 infoRq rfl (by decide) _ _ _ _ 1 [.int .i64 r.p, .int .i64 x, .int .i64 r.t] (by have := HM.out.size; simp; omega) (OD1.out.alloc _) rfl rfl (sl_new wd _ _) (by simp [Value.oneCell']) (by decide) (by omega) ?_; intro v' w' g1 g2 g3
                     have G1 := Lib.hid g1
                     have G2 := Lib.hid (((Mod.refl (fun i => u7.ownBlock = some i) wd).alloc (.cells #[.int .i64 r.p, .int .i64 x, .int .i64 r.t] TRq)).trans g2)
                     have G3 := Lib.hid g3
                     clear g1 g2 g3)
        refine ⟨⟨k + 1, by go_num, by omega, ?_, ?_, G3.out |> Apart.step hap.out OD2.out (by simp), (HM.out.new (G2.out) (own_ge OD1.out))⟩, by simp [intOf]; omega⟩
        · show World.ownsRow _ _ _ _ _ _ _
          rw [F1.out, FT.out, if_pos rfl, rqL_snoc]
          simpa using G1.out
        · show World.ownsRow _ _ _ _ _ _ _
          rw [F2.out, FT.out]
          simpa using owns_apart OD2.out G2.out hap.out
      · have e' : decide (pat ≤ d) = false := by simpa using e
        have FT : Hid (φ (x, r) = false) := hphi.trans e'
        clear hphi
        go_wp2_with fail
        go_quiet (fail)
        obtain ⟨wd, hwd⟩ : ∃ wd, wd = wr.drewN nq := ⟨_, rfl⟩
        have hmd : Mod (fun _ => False) wr wd := by rw [hwd]; exact (Mod.refl _ wr).drewN nq
        rw [← hwd]
        have OD1 := Lib.hid (owns_new ho1.out hmd)
        have OD2 := Lib.hid (owns_new ho2.out hmd)
        have HM := Lib.hid (hm.trans hmd)
        have hmm := HM.out
        have z3 := hmd.cell k3 (fun h => h)
        have z0 := hmd.cell p0 (fun h => h); have z1 := hmd.cell p1 (fun h => h); have z2 := hmd.cell p2 (fun h => h)
        clear hwd hm
        go_wp2_with (at_builtin; refine app1 (base := w.heap.size) rfl (.tmp 48) (.tmp 56) 39 TRq 3 rfl Tryz.underlying39 infoRq rfl (by decide) _ _ _ _ 1 [.int .i64 r.p, .int .i64 x, .int .i64 r.t] (by have := HM.out.size; simp; omega) (OD2.out.alloc _) rfl rfl (sl_new wd _ _) (by simp [Value.oneCell']) (by decide) (by omega) ?_; intro v' w' g1 g2 g3
                     have G1 := Lib.hid g1
                     have G2 := Lib.hid (((Mod.refl (fun i => u8.ownBlock = some i) wd).alloc (.cells #[.int .i64 r.p, .int .i64 x, .int .i64 r.t] TRq)).trans g2)
                     have G3 := Lib.hid g3
                     clear g1 g2 g3)
        refine ⟨⟨k + 1, by go_num, by omega, ?_, ?_, (G3.out |> Apart.step hap.out.symm OD1.out (by simp)).symm, (HM.out.new (G2.out) (own_ge OD2.out))⟩, by simp [intOf]; omega⟩
        · show World.ownsRow _ _ _ _ _ _ _
          rw [F1.out, FT.out]
          simpa using owns_apart OD1.out G2.out hap.out.symm
        · show World.ownsRow _ _ _ _ _ _ _
          rw [F2.out, FT.out, Bool.not_false, if_pos rfl, rqL_snoc]
          simpa using G1.out
    · have hkn : k = ks.length := by omega
      have h1 := ho1.out
      have h2 := ho2.out
      rw [hkn, List.take_length] at h1 h2
      obtain ⟨a3, cap3, rfl, _, _, _⟩ := h2.els
      have O1 := Lib.hid h1
      have O2 := Lib.hid h2
      have f33 : wr.frozen? ⟨b, 3, none⟩ = false := by rw [hm.frozen (by show b < _; omega) (fun h => h)]; exact f3
      have HB := Lib.hid (hbk.out.mod hm (fun h => h))
      clear h1 h2 ho1 ho2 hkn
      go_wp2_with fail
      go_ret2
      refine ⟨⟨_, rfl, ?_⟩, ⟨hb, a3, cap3, HB.out.set 3 _, ?_⟩, (hm.mono (fun _ _ h => h.elim)).set1 3 _⟩
      · exact owns_mod (S := (· = b)) O1.out ((Mod.refl _ wr).set1 3 _) (fun i hi e => by omega)
      · exact owns_mod (S := (· = b)) O2.out ((Mod.refl _ wr).set1 3 _) (fun i hi e => by omega)
end Go.Proofs.YtjmfhcliggjdgaaGreatDoor.Fl

/- The laws on flight: what may be in a table; awake; no condition. -/
namespace Go.Proofs.YtjmfhcliggjdgaaGreatDoor.Fl
open Go Go.RowKit

/-- What holds of a table's rows. -/
structure Okk (most each : Int) (ks : List (Int × Rq)) : Prop where
  rising : Rising ks
  len : (ks.length : Int) ≤ most
  many : ∀ p, (many ks p : Int) ≤ each
  rng : ∀ q ∈ ks, 0 ≤ q.1 ∧ q.1 ≤ 1023 ∧ (0 ≤ q.2.t ∧ q.2.t ≤ 1099511627776) ∧ 0 ≤ q.2.p ∧ q.2.p ≤ 65536
theorem Okk.nil (most each : Int) (h1 : 0 ≤ most) (h2 : 0 ≤ each) : Okk most each [] := ⟨List.Pairwise.nil, by simpa using h1, fun p => by simpa [Go.Proofs.YtjmfhcliggjdgaaGreatDoor.Fl.many] using h2, fun q h => by simp at h⟩
theorem Okk.filter {most each : Int} {ks : List (Int × Rq)} (h : Okk most each ks) (φ : Int × Rq → Bool) : Okk most each (ks.filter φ) := by
  refine ⟨List.Pairwise.filter _ h.rising, ?_, fun p => ?_, fun q hq => h.rng q (List.mem_filter.1 hq).1⟩
  · have := List.length_filter_le φ ks
    have := h.len
    omega
  · have h1 := h.many p
    have h2 : Go.Proofs.YtjmfhcliggjdgaaGreatDoor.Fl.many (ks.filter φ) p ≤ Go.Proofs.YtjmfhcliggjdgaaGreatDoor.Fl.many ks p := by
      unfold Go.Proofs.YtjmfhcliggjdgaaGreatDoor.Fl.many
      rw [List.filter_filter, show (fun a : Int × Rq => (a.2.p == p) && φ a) = fun a => φ a && (a.2.p == p) from funext fun a => Bool.and_comm _ _, ← List.filter_filter]
      exact List.length_filter_le _ _
    omega
theorem Okk.del {most each : Int} {ks : List (Int × Rq)} (h : Okk most each ks) (k : Int) : Okk most each (delL ks k) := h.filter _
theorem many_insS (x : Int × Rq) (p : Int) : ∀ ks : List (Int × Rq), many (insS x ks) p = many ks p + if x.2.p = p then 1 else 0
  | [] => by
    unfold insS many
    by_cases e : x.2.p = p <;> simp [e]
  | y :: t => by
    unfold insS
    by_cases h : x.1 < y.1
    · rw [if_pos h]
      unfold many
      rw [List.filter_cons]
      by_cases e : x.2.p = p <;> simp [e]
    · rw [if_neg h]
      have := many_insS x p t
      unfold many at this ⊢
      rw [List.filter_cons, List.filter_cons]
      by_cases e : (y.2.p == p) = true
      · rw [if_pos e, if_pos e, List.length_cons, List.length_cons, this]; omega
      · rw [if_neg e, if_neg e, this]
theorem Okk.ask {most each : Int} {ks : List (Int × Rq)} (h : Okk most each ks) (p k t : Int) : Okk most each (askK most each ks p k t) := by
  unfold askK
  split
  · rename_i he
    unfold askE at he
    split at he
    · cases he
    · rename_i hin
      split at he
      · cases he
      · rename_i hno
        split at he
        · cases he
        · rename_i hful
          have hin := Classical.not_not.1 hin
          have hn : lkL ks k = none := by simpa using hno
          simp only [not_or] at hful
          have hd : putL ks k (⟨p, t⟩ : Rq) = insS (k, ⟨p, t⟩) ks := by unfold putL; rw [del_of_none hn]
          refine ⟨rising_put h.rising _ _, ?_, fun p' => ?_, fun q hq => ?_⟩
          · rw [hd, length_insS]; omega
          · rw [hd, many_insS]
            have := h.many p'
            by_cases e : p = p'
            · subst e; rw [if_pos rfl]; omega
            · rw [if_neg e]; omega
          · rw [hd, mem_insS] at hq
            rcases hq with rfl | hq
            · exact ⟨hin.2.2.1, hin.2.2.2.1, hin.2.2.2.2, hin.1, hin.2.1⟩
            · exact h.rng q hq
  · exact h
theorem Okk.i64 {most each : Int} {ks : List (Int × Rq)} (h : Okk most each ks) : ∀ q ∈ ks, I64 q.1 := fun q hq => by
  have := h.rng q hq
  show (Lit.int .i64 q.1).wf = true
  simp [Lit.wf, IntKind.min, IntKind.max, IntKind.signed, IntKind.bits]; omega
theorem Okk.tm {most each : Int} {ks : List (Int × Rq)} (h : Okk most each ks) : ∀ q ∈ ks, 0 ≤ q.2.t ∧ q.2.t ≤ 1099511627776 := fun q hq => (h.rng q hq).2.2.1

theorem Okk.pr {most each : Int} {ks : List (Int × Rq)} (h : Okk most each ks) {q : Int × Rq} (hq : q ∈ ks) : I64 q.2.p := by
  have := (h.rng q hq).2.2.2
  show (Lit.int .i64 q.2.p).wf = true
  simp [Lit.wf, IntKind.min, IntKind.max, IntKind.signed, IntKind.bits]; omega

/-- A table of the program and one of the reference. -/
structure Two (w : World) (b M : Nat) (most each pat : Int) (ks : List (Int × Rq)) (b' base : Nat) (most' each' pat' : Int) (ks' : List (Int × Rq)) : Prop where
  t : TB w b M most each pat ks
  r : RT w b' base most' each' pat' ks'
  n1 : b ≠ b'
  n2 : M ≠ b'
  n3 : b < base
  n4 : M < base
  n5 : base ≤ w.heap.size
theorem Two.new {w w' : World} {b M : Nat} {most each pat : Int} {ks : List (Int × Rq)} {b' base : Nat} {most' each' pat' : Int} {ks' : List (Int × Rq)} (h : Two w b M most each pat ks b' base most' each' pat' ks') (hm : Mod (fun _ => False) w w') : Two w' b M most each pat ks b' base most' each' pat' ks' :=
  ⟨h.t.new hm, h.r.new hm, h.n1, h.n2, h.n3, h.n4, Nat.le_trans h.n5 hm.size⟩
theorem Two.tmod {w w' : World} {b M : Nat} {most each pat : Int} {ks l : List (Int × Rq)} {b' base : Nat} {most' each' pat' : Int} {ks' : List (Int × Rq)} (h : Two w b M most each pat ks b' base most' each' pat' ks') (hm : Mod (· = M) w w') (ht : TB w' b M most each pat l) : Two w' b M most each pat l b' base most' each' pat' ks' :=
  ⟨ht, h.r.mod hm (fun e => h.n2 e.symm) (fun i hi e => by have := h.n4; omega), h.n1, h.n2, h.n3, h.n4, Nat.le_trans h.n5 hm.size⟩
theorem Two.rmod {w w' : World} {b M : Nat} {most each pat : Int} {ks l : List (Int × Rq)} {b' base : Nat} {most' each' pat' : Int} {ks' : List (Int × Rq)} (h : Two w b M most each pat ks b' base most' each' pat' ks') (hm : Mod (· = b') w w') (hr : RT w' b' base most' each' pat' l) : Two w' b M most each pat ks b' base most' each' pat' l :=
  ⟨h.t.mod hm h.n1 h.n2, hr, h.n1, h.n2, h.n3, h.n4, Nat.le_trans h.n5 hm.size⟩

/-- Ask of the reference, whatever it answers. -/
theorem refAsk (p k t : Int) (b base : Nat) (most each pat : Int) (ks : List (Int × Rq)) (w : World) (h : RT w b base most each pat ks) (hlen : ks.length ≤ 1000) (hr : Rising ks) (hbase : base ≤ w.heap.size) :
    Calls Tryz.prog 69 #[.pointer (some ⟨b, 0, none⟩), .int .i64 p, .int .i64 k, .int .i64 t] w fun e w' => e = .returned (.int .i64 (askE most each ks p k t)) ∧ StepT b base most each pat (askK most each ks p k t) w w' := by
  by_cases he : askE most each ks p k t = 0
  · have hK : askK most each ks p k t = putL ks k ⟨p, t⟩ := by unfold askK; rw [if_pos he]
    rw [hK, he]
    unfold askE at he
    split at he
    · cases he
    · rename_i hin
      split at he
      · cases he
      · rename_i hno
        split at he
        · cases he
        · rename_i hful
          simp only [not_or] at hful
          exact (refAsk0 p k t b base most each pat ks w h hlen hr (Classical.not_not.1 hin) (by simpa using hno) hful.1 hful.2).mono fun e w' ⟨h1, h2, h3⟩ => ⟨h1, StepT.fresh h hbase h2 h3⟩
  · have hK : askK most each ks p k t = ks := by unfold askK; rw [if_neg he]
    rw [hK]
    exact (refAskE p k t b base most each pat ks w h hlen hr he).mono fun e w' ⟨h1, h2⟩ => ⟨h1, StepT.same h h2⟩
/-- What Done answers. -/
def doneE (ks : List (Int × Rq)) (k : Int) : Int := if (lkL ks k).isSome then 0 else 4
theorem flDone (k : Int) (b M : Nat) (most each pat : Int) (ks : List (Int × Rq)) (w : World) (hk : I64 k) (h : TB w b M most each pat ks) :
    Calls Tryz.prog 71 #[.pointer (some ⟨b, 0, none⟩), .int .i64 k] w fun e w' => e = .returned (.tuple #[rqAt ks k, .int .i64 (doneE ks k)]) ∧ TB w' b M most each pat (delL ks k) ∧ Mod (· = M) w w' := by
  cases hl : lkL ks k with
  | none =>
    rw [del_of_none hl, show rqAt ks k = rq0 by unfold rqAt; rw [hl]; rfl, show doneE ks k = 4 by unfold doneE; rw [hl]; rfl]
    exact (flDoneNo k b M most each pat ks w hk h hl).mono fun e w' ⟨h1, h2⟩ => ⟨h1, h.new h2, h2.mono fun _ _ h => h.elim⟩
  | some r =>
    rw [show rqAt ks k = rqv k r by unfold rqAt; rw [hl]; rfl, show doneE ks k = 0 by unfold doneE; rw [hl]; rfl]
    exact flDoneYes k r b M most each pat ks w hk h hl
theorem refDone (k : Int) (b base : Nat) (most each pat : Int) (ks : List (Int × Rq)) (w : World) (h : RT w b base most each pat ks) (hlen : ks.length ≤ 1000) (hr : Rising ks) (hbase : base ≤ w.heap.size) :
    Calls Tryz.prog 73 #[.pointer (some ⟨b, 0, none⟩), .int .i64 k] w fun e w' => e = .returned (.tuple #[rqAt ks k, .int .i64 (doneE ks k)]) ∧ StepT b base most each pat (delL ks k) w w' := by
  cases hl : lkL ks k with
  | none =>
    rw [del_of_none hl, show rqAt ks k = rq0 by unfold rqAt; rw [hl]; rfl, show doneE ks k = 4 by unfold doneE; rw [hl]; rfl]
    exact (refDoneNo k b base most each pat ks w h hlen hl).mono fun e w' ⟨h1, h2⟩ => ⟨h1, StepT.same h h2⟩
  | some r =>
    rw [show rqAt ks k = rqv k r by unfold rqAt; rw [hl]; rfl, show doneE ks k = 0 by unfold doneE; rw [hl]; rfl]
    exact (refDoneYes k r b base most each pat ks w h hlen hr hl).mono fun e w' ⟨h1, h2, h3⟩ => ⟨h1, StepT.fresh h hbase h2 h3⟩

theorem i64_of {k : Int} (h1 : -1000000000000 ≤ k) (h2 : k ≤ 1000000000000) : I64 k := by
  show (Lit.int .i64 k).wf = true
  simp [Lit.wf, IntKind.min, IntKind.max, IntKind.signed, IntKind.bits]; omega
end Go.Proofs.YtjmfhcliggjdgaaGreatDoor.Fl

/- Plain facts on sets of bits: a function that tells of each place whether it is a one, and the words and bytes that it makes; no condition. -/
namespace Go.Proofs.YtjmfhcliggjdgaaGreatDoor
open Go Go.RowKit

/-- The number whose first n binary places are those of f. -/
def pk (f : Nat → Bool) : Nat → Nat
  | 0 => 0
  | n + 1 => pk f n ||| (if f n then 2 ^ n else 0)
theorem testBit_pk (f : Nat → Bool) (n i : Nat) : (pk f n).testBit i = (decide (i < n) && f i) := by
  induction n with
  | zero => simp [pk]
  | succ n ih =>
    rw [pk, Nat.testBit_or, ih]
    by_cases hf : f n = true
    · rw [if_pos hf, Nat.testBit_two_pow]
      by_cases hi : i = n
      · subst hi; simp [hf]
      · have : (decide (n = i)) = false := by simp; omega
        rw [this, Bool.or_false]
        congr 1
        simp; omega
    · rw [if_neg hf, Nat.zero_testBit, Bool.or_false]
      by_cases hi : i = n
      · subst hi; simp at hf; simp [hf]
      · congr 1
        simp; omega
theorem pk_lt (f : Nat → Bool) (n : Nat) : pk f n < 2 ^ n := by
  apply Nat.lt_pow_two_of_testBit
  intro i hi
  rw [testBit_pk]
  have : ¬ i < n := by omega
  simp [this]
theorem pk_ext {f g : Nat → Bool} {n : Nat} (h : ∀ i, i < n → f i = g i) : pk f n = pk g n := by
  apply Nat.eq_of_testBit_eq
  intro i
  rw [testBit_pk, testBit_pk]
  by_cases hi : i < n
  · rw [h i hi]
  · simp [hi]
theorem pk_inj {f g : Nat → Bool} {n : Nat} (h : pk f n = pk g n) : ∀ i, i < n → f i = g i := by
  intro i hi
  have := congrArg (·.testBit i) h
  simp only [testBit_pk, hi, decide_true, Bool.true_and] at this
  exact this
theorem pk_false (n : Nat) : pk (fun _ => false) n = 0 := by
  induction n with
  | zero => rfl
  | succ n ih => rw [pk, ih]; simp
/-- The word, the byte at a place. -/
def wd (f : Nat → Bool) (k : Nat) : Nat := pk (fun j => f (64 * k + j)) 64
def byt (f : Nat → Bool) (k : Nat) : Nat := pk (fun j => f (8 * k + j)) 8
theorem wd_lt (f : Nat → Bool) (k : Nat) : wd f k < 18446744073709551616 := pk_lt _ 64
theorem byt_lt (f : Nat → Bool) (k : Nat) : byt f k < 256 := pk_lt _ 8
theorem testBit_wd (f : Nat → Bool) (k i : Nat) : (wd f k).testBit i = (decide (i < 64) && f (64 * k + i)) := testBit_pk _ _ _
theorem testBit_byt (f : Nat → Bool) (k i : Nat) : (byt f k).testBit i = (decide (i < 8) && f (8 * k + i)) := testBit_pk _ _ _
theorem wd_false (k : Nat) : wd (fun _ => false) k = 0 := pk_false 64

/-- All ones of a word. -/
theorem testBit_ones (i : Nat) : (18446744073709551615 : Nat).testBit i = decide (i < 64) := Nat.testBit_two_pow_sub_one (n := 64) (i := i)
theorem bits_andNot_u64_nat (a b : Nat) (ha : a < 18446744073709551616) (hb : b < 18446744073709551616) :
    bits .andNot .u64 (a : Int) (b : Int) = ((a &&& (18446744073709551615 ^^^ b) : Nat) : Int) := by
  have h1 : (BitVec.ofInt 64 (a : Int)).toNat = a := by
    rw [BitVec.ofInt_natCast, BitVec.toNat_ofNat]; exact Nat.mod_eq_of_lt (by omega)
  have h2 : (BitVec.ofInt 64 (b : Int)).toNat = b := by
    rw [BitVec.ofInt_natCast, BitVec.toNat_ofNat]; exact Nat.mod_eq_of_lt (by omega)
  show IntKind.u64.wrap ((BitVec.ofInt 64 (a : Int) &&& ~~~ BitVec.ofInt 64 (b : Int)).toNat : Int) = _
  have h3 : (BitVec.ofInt 64 (a : Int) &&& ~~~ BitVec.ofInt 64 (b : Int)).toNat = a &&& (18446744073709551615 ^^^ b) := by
    rw [BitVec.toNat_and, h1, BitVec.toNat_not, h2]
    congr 1
    apply Nat.eq_of_testBit_eq
    intro i
    rw [show (2 ^ 64 - 1 - b : Nat) = 2 ^ 64 - (b + 1) by omega, Nat.testBit_two_pow_sub_succ (by omega), Nat.testBit_xor, testBit_ones]
    by_cases hi : i < 64
    · simp [hi]
    · have : b.testBit i = false := Nat.testBit_lt_two_pow (Nat.lt_of_lt_of_le (show b < 2 ^ 64 by omega) (Nat.pow_le_pow_right (by omega) (by omega)))
      simp [hi, this]
  rw [h3, IntKind.wrap_u64]
  have : a &&& (18446744073709551615 ^^^ b) < 2 ^ 64 := Nat.and_lt_two_pow _ (Nat.xor_lt_two_pow (by omega) (by omega))
  omega
theorem tb_hi {a n i : Nat} (h : a < 2 ^ n) (hi : n ≤ i) : a.testBit i = false :=
  Nat.testBit_lt_two_pow (Nat.lt_of_lt_of_le h (Nat.pow_le_pow_right (by omega) hi))

/-- Ones from a place of a word to another one. -/
def seg (lo hi : Nat) : Nat := pk (fun i => decide (lo ≤ i) && decide (i < hi)) 64
theorem seg_lt (lo hi : Nat) : seg lo hi < 18446744073709551616 := pk_lt _ 64
theorem seg_eq (lo hi : Nat) (h1 : lo < hi) (h2 : hi ≤ 64) : IntKind.u64.wrap (18446744073709551615 / 2 ^ (64 - (hi - lo)) * 2 ^ lo) = (seg lo hi : Int) := by
  have e : (18446744073709551615 / 2 ^ (64 - (hi - lo)) * 2 ^ lo % 18446744073709551616 : Nat) = seg lo hi := by
    apply Nat.eq_of_testBit_eq
    intro i
    unfold seg
    rw [testBit_pk, show (18446744073709551616 : Nat) = 2 ^ 64 from rfl, Nat.testBit_mod_two_pow, ← Nat.shiftRight_eq_div_pow, ← Nat.shiftLeft_eq, Nat.testBit_shiftLeft, Nat.testBit_shiftRight, testBit_ones]
    by_cases a : i < 64 <;> by_cases b : lo ≤ i <;> by_cases c : i < hi <;> simp [a, b, c] <;> omega
  rw [IntKind.wrap_u64, ← e]
  simp
theorem seg_at (q k r e x : Nat) (hk : k = 64 * q + r) (h2 : k < e) (h3 : e ≤ 64 * q + 64) (hx : x = 64 - (e - k)) : IntKind.u64.wrap (18446744073709551615 / 2 ^ x * 2 ^ r) = (seg r (e - 64 * q) : Int) := by
  rw [← seg_eq r (e - 64 * q) (by omega) (by omega), hx, show e - k = e - 64 * q - r by omega]

/-- Filling from a place to another one. -/
def fil (f : Nat → Bool) (i j : Nat) (one : Bool) : Nat → Bool := fun x => if i ≤ x ∧ x < j then one else f x
theorem fil_self (f : Nat → Bool) (i : Nat) (one : Bool) : fil f i i one = f := by
  funext x
  unfold fil
  rw [if_neg (by omega)]
theorem fil_fil (f : Nat → Bool) (i k e : Nat) (one : Bool) (h1 : i ≤ k) (h2 : k ≤ e) : fil (fil f i k one) k e one = fil f i e one := by
  funext x
  unfold fil
  by_cases a : k ≤ x ∧ x < e
  · rw [if_pos a, if_pos (by omega)]
  · rw [if_neg a]
    by_cases b : i ≤ x ∧ x < k
    · rw [if_pos b, if_pos (by omega)]
    · rw [if_neg b, if_neg (by omega)]
theorem wd_fil_out (f : Nat → Bool) (q lo hi k : Nat) (one : Bool) (hk : k ≠ q) (hh : hi ≤ 64) : wd (fil f (64 * q + lo) (64 * q + hi) one) k = wd f k := by
  apply pk_ext
  intro i hi2
  show (if _ then _ else _) = _
  rw [if_neg (by omega)]
theorem wd_fil_or (f : Nat → Bool) (q lo hi : Nat) : bits .or .u64 (wd f q : Int) (seg lo hi : Int) = (wd (fil f (64 * q + lo) (64 * q + hi) true) q : Int) := by
  rw [bits_or_u64_nat _ _ (wd_lt _ _) (seg_lt _ _)]
  congr 1
  apply Nat.eq_of_testBit_eq
  intro i
  rw [Nat.testBit_or, testBit_wd, testBit_wd, seg, testBit_pk]
  unfold fil
  by_cases a : i < 64
  · by_cases b : 64 * q + lo ≤ 64 * q + i ∧ 64 * q + i < 64 * q + hi
    · rw [if_pos b]; have b1 : lo ≤ i := by omega
      have b2 : i < hi := by omega
      simp [a, b1, b2]
    · rw [if_neg b]
      by_cases c : lo ≤ i
      · have : ¬ i < hi := by omega
        simp [this]
      · simp [c]
  · simp [a]
theorem wd_fil_not (f : Nat → Bool) (q lo hi : Nat) : bits .andNot .u64 (wd f q : Int) (seg lo hi : Int) = (wd (fil f (64 * q + lo) (64 * q + hi) false) q : Int) := by
  rw [bits_andNot_u64_nat _ _ (wd_lt _ _) (seg_lt _ _)]
  congr 1
  apply Nat.eq_of_testBit_eq
  intro i
  rw [Nat.testBit_and, Nat.testBit_xor, testBit_ones, testBit_wd, testBit_wd, seg, testBit_pk]
  unfold fil
  by_cases a : i < 64
  · by_cases b : 64 * q + lo ≤ 64 * q + i ∧ 64 * q + i < 64 * q + hi
    · rw [if_pos b]; have b1 : lo ≤ i := by omega
      have b2 : i < hi := by omega
      simp [a, b1, b2]
    · rw [if_neg b]
      by_cases c : lo ≤ i
      · have : ¬ i < hi := by omega
        simp [a, this]
      · simp [a, c]
  · simp [a]

/-- The places of so many bytes. -/
def ofB (bs : List Nat) (i : Nat) : Nat → Bool := fun x => decide (x < 8 * i) && (bs.getD (x / 8) 0).testBit (x % 8)
theorem ofB_zero (bs : List Nat) : ofB bs 0 = fun _ => false := by
  funext x
  simp [ofB]
theorem wd_ofB_out (bs : List Nat) (i k : Nat) (hk : k ≠ i / 8) : wd (ofB bs (i + 1)) k = wd (ofB bs i) k := by
  apply pk_ext
  intro j hj
  unfold ofB
  congr 1
  simp; omega
theorem wd_ofB_in (bs : List Nat) (i : Nat) (hb : bs.getD i 0 < 256) : bits .or .u64 (wd (ofB bs i) (i / 8) : Int) (IntKind.u64.wrap (((bs.getD i 0 : Nat) : Int) * 2 ^ (8 * (i % 8)))) = (wd (ofB bs (i + 1)) (i / 8) : Int) := by
  have e1 : bs.getD i 0 * 2 ^ (8 * (i % 8)) < 2 ^ 64 := by
    have h1 : (2 : Nat) ^ (8 * (i % 8)) ≤ 2 ^ 56 := Nat.pow_le_pow_right (by omega) (by omega)
    have h2 := Nat.mul_le_mul (show bs.getD i 0 ≤ 255 by omega) h1
    omega
  have e2 : IntKind.u64.wrap (((bs.getD i 0 : Nat) : Int) * 2 ^ (8 * (i % 8))) = ((bs.getD i 0 * 2 ^ (8 * (i % 8)) : Nat) : Int) := by
    rw [IntKind.wrap_u64]
    have : ((bs.getD i 0 : Nat) : Int) * 2 ^ (8 * (i % 8)) = ((bs.getD i 0 * 2 ^ (8 * (i % 8)) : Nat) : Int) := by simp
    rw [this]
    omega
  rw [e2, bits_or_u64_nat _ _ (wd_lt _ _) e1]
  congr 1
  apply Nat.eq_of_testBit_eq
  intro j
  rw [Nat.testBit_or, testBit_wd, testBit_wd, ← Nat.shiftLeft_eq, Nat.testBit_shiftLeft]
  unfold ofB
  by_cases a : j < 64
  · by_cases b : 64 * (i / 8) + j < 8 * i
    · have c : 64 * (i / 8) + j < 8 * (i + 1) := by omega
      have d : ¬ (8 * (i % 8) ≤ j) := by omega
      simp [a, b, c, d]
    · by_cases c : 64 * (i / 8) + j < 8 * (i + 1)
      · have d : 8 * (i % 8) ≤ j := by omega
        have e3 : (64 * (i / 8) + j) / 8 = i := by omega
        have e4 : (64 * (i / 8) + j) % 8 = j - 8 * (i % 8) := by omega
        rw [e3, e4]
        simp [a, b, c, d]
      · have d : 8 ≤ j - 8 * (i % 8) := by omega
        have : (bs.getD i 0).testBit (j - 8 * (i % 8)) = false := tb_hi (n := 8) (by omega) d
        rw [this]
        simp [b, c]
  · have : (bs.getD i 0).testBit (j - 8 * (i % 8)) = false := tb_hi (n := 8) (by omega) (by omega)
    rw [this]
    simp [a]

/-- Ones where the last word has bits. -/
def msk (n : Nat) : Nat := 18446744073709551615 / 2 ^ ((64 - n % 64) % 64)
theorem testBit_msk (n i : Nat) : (msk n).testBit i = decide (i + (64 - n % 64) % 64 < 64) := by
  unfold msk
  rw [← Nat.shiftRight_eq_div_pow, Nat.testBit_shiftRight, testBit_ones, Nat.add_comm]
theorem msk_lt (n : Nat) : msk n < 18446744073709551616 := Nat.lt_of_le_of_lt (Nat.div_le_self _ _) (by decide)
theorem msk_eq (n : Nat) : (18446744073709551615 : Int) / 2 ^ (-((n : Int) % 64) % 64).toNat = (msk n : Int) := by
  have : (-((n : Int) % 64) % 64).toNat = (64 - n % 64) % 64 := by omega
  rw [this]
  unfold msk
  simp
/-- No ones behind the last place, in the last word. -/
theorem msk_none (f : Nat → Bool) (n L : Nat) (hL : 64 * L < n) (hL2 : n ≤ 64 * L + 64) :
    bits .andNot .u64 (wd f L : Int) (msk n : Int) = 0 ↔ ∀ x, n ≤ x → x < 64 * L + 64 → f x = false := by
  rw [bits_andNot_u64_nat _ _ (wd_lt _ _) (msk_lt _)]
  constructor
  · intro h x h1 h2
    have h0 : wd f L &&& (18446744073709551615 ^^^ msk n) = 0 := by omega
    have := congrArg (·.testBit (x - 64 * L)) h0
    simp only [Nat.testBit_and, Nat.testBit_xor, testBit_ones, testBit_msk, testBit_wd, Nat.zero_testBit] at this
    have a : x - 64 * L < 64 := by omega
    have b : ¬ (x - 64 * L + (64 - n % 64) % 64 < 64) := by omega
    have c : 64 * L + (x - 64 * L) = x := by omega
    simpa [a, b, c] using this
  · intro h
    have : wd f L &&& (18446744073709551615 ^^^ msk n) = 0 := by
      apply Nat.eq_of_testBit_eq
      intro i
      rw [Nat.testBit_and, Nat.testBit_xor, testBit_ones, testBit_msk, testBit_wd, Nat.zero_testBit]
      by_cases a : i < 64
      · by_cases b : i + (64 - n % 64) % 64 < 64
        · simp [a, b]
        · rw [h (64 * L + i) (by omega) (by omega)]; simp
      · simp [a]
    omega
/-- A byte of a word. -/
theorem byt_eq (f : Nat → Bool) (i : Nat) : IntKind.u8.wrap ((wd f (i / 8) : Int) / 2 ^ (8 * (i % 8))) = (byt f i : Int) := by
  have e : (wd f (i / 8) / 2 ^ (8 * (i % 8)) % 256 : Nat) = byt f i := by
    apply Nat.eq_of_testBit_eq
    intro j
    rw [show (256 : Nat) = 2 ^ 8 from rfl, Nat.testBit_mod_two_pow, ← Nat.shiftRight_eq_div_pow, Nat.testBit_shiftRight, testBit_wd, testBit_byt]
    by_cases a : j < 8
    · have b : 8 * (i % 8) + j < 64 := by omega
      have c : 64 * (i / 8) + (8 * (i % 8) + j) = 8 * i + j := by omega
      simp [a, b, c]
    · simp [a]
  rw [← e]
  simp [IntKind.wrap, IntKind.bits, IntKind.signed]
theorem byt_ofB (bs : List Nat) (n i : Nat) (hi : i < n) (hb : bs.getD i 0 < 256) : byt (ofB bs n) i = bs.getD i 0 := by
  apply Nat.eq_of_testBit_eq
  intro j
  rw [testBit_byt]
  unfold ofB
  by_cases a : j < 8
  · have b : 8 * i + j < 8 * n := by omega
    have c : (8 * i + j) / 8 = i := by omega
    have d : (8 * i + j) % 8 = j := by omega
    simp [a, b, c, d]
  · rw [tb_hi (a := bs.getD i 0) (n := 8) (by omega) (by omega)]
    simp [a]
end Go.Proofs.YtjmfhcliggjdgaaGreatDoor

/- What package bits does, as contracts over what a set's places are: New, Fill, Put, mask; no condition. -/
namespace Go.Proofs.YtjmfhcliggjdgaaGreatDoor
open Go Go.RowKit

/-- A set's cells at block b, its words at block g: n places, of which those of f are ones. -/
structure BRaw (w : World) (b g n : Nat) (f : Nat → Bool) : Prop where
  head : ∃ c, Blk w b #[.int .i64 n, .slice (some ⟨g, 0, none⟩) ((n + 63) / 64) c] 105
  ne : g ≠ b
  words : ∃ cs : Array Value, Blk w g cs 26 ∧ ∀ k, k < (n + 63) / 64 → cs[k]? = some (.int .u64 (wd f k))
  small : n ≤ 65536
/-- .. with no ones behind the last place. -/
structure BSet (w : World) (b g n : Nat) (f : Nat → Bool) : Prop extends BRaw w b g n f where
  out : ∀ i, n ≤ i → f i = false
theorem BRaw.lt {w : World} {b g n : Nat} {f : Nat → Bool} (h : BRaw w b g n f) : b < w.heap.size ∧ g < w.heap.size := by
  obtain ⟨c, hc⟩ := h.head
  obtain ⟨cs, hcs, _⟩ := h.words
  exact ⟨hc.lt, hcs.lt⟩
theorem BRaw.mod {S : Nat → Prop} {w w' : World} {b g n : Nat} {f : Nat → Bool} (h : BRaw w b g n f) (hm : Mod S w w') (hb : ¬ S b) (hg : ¬ S g) : BRaw w' b g n f := by
  obtain ⟨c, hc⟩ := h.head
  obtain ⟨cs, hcs, hk⟩ := h.words
  exact ⟨⟨c, hc.mod hm hb⟩, h.ne, ⟨cs, hcs.mod hm hg, hk⟩, h.small⟩
theorem BSet.mod {S : Nat → Prop} {w w' : World} {b g n : Nat} {f : Nat → Bool} (h : BSet w b g n f) (hm : Mod S w w') (hb : ¬ S b) (hg : ¬ S g) : BSet w' b g n f := ⟨h.toBRaw.mod hm hb hg, h.out⟩
theorem BRaw.drewN {w : World} {b g n : Nat} {f : Nat → Bool} (h : BRaw w b g n f) (k : Nat) : BRaw (w.drewN k) b g n f := ⟨h.head, h.ne, h.words, h.small⟩
theorem BSet.drewN {w : World} {b g n : Nat} {f : Nat → Bool} (h : BSet w b g n f) (k : Nat) : BSet (w.drewN k) b g n f := ⟨h.toBRaw.drewN k, h.out⟩
theorem BSet.alloc {w : World} {b g n : Nat} {f : Nat → Bool} (h : BSet w b g n f) (o : Obj) : BSet (w.alloc o) b g n f :=
  h.mod (S := fun _ => False) ((Mod.refl _ _).alloc o) (fun h => h) (fun h => h)
theorem BRaw.put {w : World} {b g n : Nat} {f : Nat → Bool} (h : BRaw w b g n f) (q : Nat) (v : Value) (f' : Nat → Bool) (hv : v = .int .u64 (wd f' q)) (hne : ∀ k, k ≠ q → wd f' k = wd f k) :
    BRaw (w.setCell ⟨g, q, none⟩ v) b g n f' := by
  obtain ⟨c, hc⟩ := h.head
  obtain ⟨cs, hcs, hk⟩ := h.words
  refine ⟨⟨c, hc.setOther h.ne _⟩, h.ne, ⟨_, hcs.set q v, fun k hlt => ?_⟩, h.small⟩
  have h0 := hk k hlt
  have h1 := (Array.getElem?_eq_some_iff.1 h0).1
  by_cases e : k = q
  · subst e
    rw [Array.getElem?_setIfInBounds_self_of_lt h1, hv]
  · rw [Array.getElem?_setIfInBounds_ne (Ne.symm e), h0, hne k e]
theorem BSet.put {w : World} {b g n : Nat} {f : Nat → Bool} (h : BSet w b g n f) (q : Nat) (v : Value) (f' : Nat → Bool) (hv : v = .int .u64 (wd f' q)) (hne : ∀ k, k ≠ q → wd f' k = wd f k) (hout : ∀ i, n ≤ i → f' i = false) :
    BSet (w.setCell ⟨g, q, none⟩ v) b g n f' := ⟨h.toBRaw.put q v f' hv hne, hout⟩
theorem BRaw.n0 {w : World} {b g n : Nat} {f : Nat → Bool} (h : BRaw w b g n f) : w.cell? ⟨b, 0, none⟩ = some (.int .i64 n) := by
  obtain ⟨c, hc⟩ := h.head
  rw [hc.cell]; rfl
theorem BRaw.s1 {w : World} {b g n : Nat} {f : Nat → Bool} (h : BRaw w b g n f) : ∃ c, w.cell? ⟨b, 1, none⟩ = some (.slice (some ⟨g, 0, none⟩) ((n + 63) / 64) c) := by
  obtain ⟨c, hc⟩ := h.head
  exact ⟨c, by rw [hc.cell]; rfl⟩
theorem BRaw.word {w : World} {b g n : Nat} {f : Nat → Bool} (h : BRaw w b g n f) {k : Nat} (hk : k < (n + 63) / 64) : w.cell? ⟨g, k, none⟩ = some (.int .u64 (wd f k)) ∧ w.frozen? ⟨g, k, none⟩ = false := by
  obtain ⟨cs, hcs, h1⟩ := h.words
  exact ⟨by rw [hcs.cell]; exact h1 k hk, hcs.frozen k⟩
/-- A list of bytes, as a slice holds them. -/
abbrev byts (bs : List Nat) : List Value := bs.map fun (z : Nat) => .int .u8 (z : Int)
theorem Sl.byt {w : World} {v : Value} {n : Nat} {bs : List Nat} (h : Sl w v 1 n (byts bs)) (k : Nat) (hk : k < n) : ∃ x c, v = .slice (some x) n c ∧ w.cell? (x.add k) = some (.int .u8 (bs.getD k 0 : Nat)) := by
  rcases h with ⟨_, h2, _⟩ | ⟨x, c, rfl, h2, h3⟩
  · omega
  · have hl : bs.length = n := by simpa using h2
    exact ⟨x, c, rfl, h3 k _ (by rw [List.getElem?_map, List.getElem?_eq_getElem (by omega), List.getD_eq_getElem?_getD, List.getElem?_eq_getElem (by omega)]; rfl)⟩

theorem made_get (z : Array Value) (m k : Nat) (hz : z.size = 1) (hk : k < m) : (madeCells z m)[k]? = z[0]? := by
  unfold madeCells
  simp [hz, hk, Nat.mod_one]

theorem infoU64 : (Tryz.prog.info? 26).map (fun i => (i.zero, i.size, i.bytes)) = some (some (.int .u64 0), 1, 8) := by kernel_rfl
set_option maxHeartbeats 400000 in
theorem bitsNewBad (n : Int) (w : World) (h : n < 0 ∨ 65536 < n) :
    Calls Tryz.prog 40 #[.int .i64 n] w fun e w' => e = .returned (.tuple #[.pointer none, .int .i64 1]) ∧ w = w' := by
  go_enter Tryz.func40, Tryz.ntmps40
  rcases h with h | h
  · go_wp2
    go_ret2
    exact ⟨rfl, rfl⟩
  · have h2 : ¬ n < 0 := by omega
    go_wp2
    go_ret2
    exact ⟨rfl, rfl⟩

set_option maxHeartbeats 400000 in
theorem bitsNew (n : Nat) (w : World) (h : n ≤ 65536) :
    Calls Tryz.prog 40 #[.int .i64 n] w fun e w' => e = .returned (.tuple #[.pointer (some ⟨w.heap.size + 1, 0, none⟩), .int .i64 0]) ∧ BSet w' (w.heap.size + 1) w.heap.size n (fun _ => false) ∧ Mod (fun _ => False) w w' := by
  obtain ⟨i0, hi, hz0, hz1, hz2⟩ := info_parts infoU64
  have hmk := run_makeSlice (P := Tryz.prog) w 103 26 i0 (.int .u64 0) Tryz.underlying103 hi hz0 .i64 .i64 (((n : Int) + 64 - 1) / 64) (((n : Int) + 64 - 1) / 64) (by omega) (Int.le_refl _) (by rw [hz1]; omega) (by rw [hz2]; omega) (by omega)
  rw [hz1] at hmk
  have hm : (((n : Int) + 64 - 1) / 64).toNat = (n + 63) / 64 := by omega
  rw [hm] at hmk
  have h1 : ¬ (n : Int) < 0 := by omega
  have h2 : ¬ (65536 : Int) < n := by omega
  clear hi hz0 hz1 hz2 hm
  go_enter Tryz.func40, Tryz.ntmps40
  go_wp2_with fail
  go_ret2
  refine ⟨rfl, ⟨⟨⟨_, by have := Blk.new (w.alloc (.cells (madeCells #[Value.int .u64 0] ((n + 63) / 64)) 26)) #[.int .i64 n, .slice (some ⟨w.heap.size, 0, none⟩) ((n + 63) / 64) ((n + 63) / 64)] 105; simpa using this⟩, by omega, ⟨_, (Blk.new w _ _).alloc _, fun k hk => ?_⟩, h⟩, fun _ _ => rfl⟩, ((Mod.refl _ w).alloc _).alloc _⟩
  rw [made_get _ _ _ rfl hk, wd_false]
  rfl

set_option maxHeartbeats 400000 in
theorem bitsFillBad (b g n : Nat) (f : Nat → Bool) (i j : Int) (one : Bool) (w : World) (h : BSet w b g n f) (hbad : i < 0 ∨ j < i ∨ n < j) :
    Calls Tryz.prog 76 #[.pointer (some ⟨b, 0, none⟩), .int .i64 i, .int .i64 j, .bool one] w fun e w' => e = .returned (.int .i64 1) ∧ w = w' := by
  have c0 := h.n0
  clear h
  go_enter Tryz.func76, Tryz.ntmps76
  by_cases h1 : i < 0
  · go_wp2
    go_ret
    exact ⟨rfl, rfl⟩
  · by_cases h2 : j < i
    · go_wp2
      go_ret
      exact ⟨rfl, rfl⟩
    · have h3 : (n : Int) < j := by omega
      go_wp2
      go_ret
      exact ⟨rfl, rfl⟩

set_option maxHeartbeats 1000000 in
theorem bitsFill (b g n : Nat) (f : Nat → Bool) (i j : Nat) (one : Bool) (w : World) (h : BSet w b g n f) (h1 : i ≤ j) (h2 : j ≤ n) :
    Calls Tryz.prog 76 #[.pointer (some ⟨b, 0, none⟩), .int .i64 i, .int .i64 j, .bool one] w fun e w' => e = .returned (.int .i64 0) ∧ BSet w' b g n (fil f i j one) ∧ Mod (· = g) w w' := by
  have c0 := h.n0
  have hn := h.small
  have h3 : ¬ (i : Int) < 0 := by omega
  have h4 : ¬ (j : Int) < i := by omega
  have h5 : ¬ (n : Int) < j := by omega
  have H := Lib.hid h
  clear h
  go_enter Tryz.func76, Tryz.ntmps76
  go_wp2_with fail
  go_loopw [1] (fun v wr => ∃ k : Nat, v = .int .i64 k ∧ i ≤ k ∧ k ≤ j ∧ Hid (BSet wr b g n (fil f i k one)) ∧ Mod (· = g) w wr) (fun v _ => j - (intOf v).toNat)
  case atStart => exact ⟨i, rfl, Nat.le_refl _, h1, by rw [fil_self]; exact H, Mod.refl _ _⟩
  case round =>
    obtain ⟨k, rfl, hik, hkj, hs, hm⟩ := hrel
    by_cases hl : (k : Int) < j
    · obtain ⟨q, r, hq, hr64⟩ : ∃ q r : Nat, k = 64 * q + r ∧ r < 64 := ⟨k / 64, k % 64, by omega, by omega⟩
      obtain ⟨m, hmm⟩ : ∃ m, m = (n + 63) / 64 := ⟨_, rfl⟩
      have hqm : q < (n + 63) / 64 := by omega
      obtain ⟨d1, d2⟩ := hs.out.word hqm
      have d0 := hs.out.n0
      obtain ⟨c, d3⟩ := hs.out.s1
      rw [← hmm] at d3
      have hqq : (k : Int) / 64 = q := by omega
      have hrr : k % 64 = r := by omega
      have hqm2 : q < m := by omega
      have hhs : Hid (∀ e v, k ≤ e → e ≤ j → e ≤ 64 * q + 64 → v = (bits (if one then .or else .andNot) .u64 (wd (fil f i k one) q : Int) (seg r (e - 64 * q) : Int)) → BSet (wr.setCell ⟨g, q, none⟩ (.int .u64 v)) b g n (fil f i e one)) := by
        intro e v he1 he2 he3 hv
        have hsg : fil f i e one = fil (fil f i k one) (64 * q + r) (64 * q + (e - 64 * q)) one := by
          rw [← hq, show 64 * q + (e - 64 * q) = e by omega, fil_fil _ _ _ _ _ hik he1]
        rw [hsg]
        refine hs.out.put q _ _ ?_ (fun x hx => wd_fil_out _ _ _ _ _ _ hx (by omega)) (fun x hx => ?_)
        · rw [hv]
          cases one
          · rw [← wd_fil_not]; rfl
          · rw [← wd_fil_or]; rfl
        · rw [← hsg]
          unfold fil
          rw [if_neg (by omega)]
          have := hs.out.out x hx
          unfold fil at this
          rw [if_neg (by omega)] at this
          exact this
      have hb1 : 64 - (64 * q + 64 - k) < 64 := by omega
      generalize hW : wd (fil f i k one) q = W at d1 hhs
      have HQ := Lib.hid hq
      clear hmm hW hq hqm hb1
      have he : ((q : Int) + 1) * 64 < j ∨ ¬ (((q : Int) + 1) * 64 < j) := Classical.em _
      cases one
      · rcases he with he | he
        · go_wp2_with fail
          refine ⟨⟨64 * q + 64, by congr 1; omega, by omega, by omega, ?_, hm.setCell (.inl rfl) _⟩, by simp [intOf]; omega⟩
          exact hhs.out (64 * q + 64) _ (by omega) (by omega) (by omega) (congrArg (bits .andNot .u64 _) (seg_at q k r _ _ HQ.out (by omega) (by omega) (by omega)))
        · go_wp2_with fail
          refine ⟨⟨j, by first | rfl | (congr 1; omega), h1, Nat.le_refl _, ?_, hm.setCell (.inl rfl) _⟩, by simp [intOf]; omega⟩
          exact hhs.out j _ (by omega) (by omega) (by omega) (congrArg (bits .andNot .u64 _) (seg_at q k r _ _ HQ.out (by omega) (by omega) (by omega)))
      · rcases he with he | he
        · go_wp2_with fail
          refine ⟨⟨64 * q + 64, by congr 1; omega, by omega, by omega, ?_, hm.setCell (.inl rfl) _⟩, by simp [intOf]; omega⟩
          exact hhs.out (64 * q + 64) _ (by omega) (by omega) (by omega) (congrArg (bits .or .u64 _) (seg_at q k r _ _ HQ.out (by omega) (by omega) (by omega)))
        · go_wp2_with fail
          refine ⟨⟨j, by first | rfl | (congr 1; omega), h1, Nat.le_refl _, ?_, hm.setCell (.inl rfl) _⟩, by simp [intOf]; omega⟩
          exact hhs.out j _ (by omega) (by omega) (by omega) (congrArg (bits .or .u64 _) (seg_at q k r _ _ HQ.out (by omega) (by omega) (by omega)))
    · have hkj2 : k = j := by omega
      subst hkj2
      go_wp2_with fail
      go_ret
      exact ⟨rfl, hs.out, hm⟩

set_option maxHeartbeats 400000 in
theorem bitsPutBad (b g n : Nat) (f : Nat → Bool) (i : Int) (one : Bool) (w : World) (h : BSet w b g n f) (hbad : i < 0 ∨ n ≤ i) :
    Calls Tryz.prog 42 #[.pointer (some ⟨b, 0, none⟩), .int .i64 i, .bool one] w fun e w' => e = .returned (.int .i64 1) ∧ w = w' := by
  have c0 := h.n0
  clear h
  go_enter Tryz.func42, Tryz.ntmps42
  by_cases h1 : i < 0
  · go_wp2
    go_ret
    exact ⟨rfl, rfl⟩
  · have h3 : (n : Int) ≤ i := by omega
    go_wp2
    go_ret
    exact ⟨rfl, rfl⟩

set_option maxHeartbeats 400000 in
theorem bitsPut (b g n : Nat) (f : Nat → Bool) (i : Nat) (one : Bool) (w : World) (h : BSet w b g n f) (hi : i < n) :
    Calls Tryz.prog 42 #[.pointer (some ⟨b, 0, none⟩), .int .i64 i, .bool one] w fun e w' => e = .returned (.int .i64 0) ∧ BSet w' b g n (fil f i (i + 1) one) ∧ Mod (· = g) w w' := by
  have c0 := h.n0
  have hn := h.small
  have H := Lib.hid h
  have h1 : ¬ (i : Int) < 0 := by omega
  have h3 : ¬ (n : Int) ≤ i := by omega
  clear h
  go_enter Tryz.func42, Tryz.ntmps42
  go_wp2_with fail
  refine (bitsFill b g n f i (i + 1) one _ H.out (by omega) (by omega)).mono ?_; rintro e w' ⟨rfl, h1, h2⟩
  go_wp2_with fail
  go_ret
  exact ⟨rfl, h1, h2⟩

set_option maxHeartbeats 400000 in
theorem bitsMask (b g n : Nat) (f : Nat → Bool) (w : World) (h : BRaw w b g n f) :
    Calls Tryz.prog 85 #[.pointer (some ⟨b, 0, none⟩)] w fun e w' => e = .returned (.int .u64 (msk n)) ∧ w = w' := by
  have c0 := h.n0
  clear h
  go_enter Tryz.func85, Tryz.ntmps85
  go_wp2_with fail
  go_ret
  exact ⟨congrArg (fun x => Ending.returned (.int .u64 x)) (msk_eq n), rfl⟩

set_option maxHeartbeats 400000 in
theorem bitsLen (b g n : Nat) (f : Nat → Bool) (w : World) (h : BSet w b g n f) :
    Calls Tryz.prog 77 #[.pointer (some ⟨b, 0, none⟩)] w fun e w' => e = .returned (.int .i64 n) ∧ w = w' := by
  have c0 := h.n0
  clear h
  go_enter Tryz.func77, Tryz.ntmps77
  go_wp2_with fail
  go_ret
  exact ⟨rfl, rfl⟩
end Go.Proofs.YtjmfhcliggjdgaaGreatDoor

/- Load and Bytes of package bits; no condition. -/
namespace Go.Proofs.YtjmfhcliggjdgaaGreatDoor
open Go Go.RowKit




/-- What Bytes tells. -/
def bytesOf (f : Nat → Bool) (n : Nat) : List Nat := (List.range ((n + 7) / 8)).map (byt f)
end Go.Proofs.YtjmfhcliggjdgaaGreatDoor

/- Bytes as a string; Bytes of package bits; no condition. -/
namespace Go.Proofs.YtjmfhcliggjdgaaGreatDoor
open Go Go.RowKit

/-- The string that bytes are. -/
def strOf (bs : List Nat) : ByteArray := ⟨(bs.map UInt8.ofNat).toArray⟩
theorem foldl_push (bs : List Nat) (s : ByteArray) : (bs.map (fun (n : Nat) => (n : Int))).foldl (fun r n => r.push (UInt8.ofNat n.toNat)) s = ⟨s.data ++ (bs.map UInt8.ofNat).toArray⟩ := by
  induction bs generalizing s with
  | nil => simp
  | cons b bs ih =>
    simp only [List.map_cons, List.foldl_cons]
    rw [ih]
    simp [ByteArray.push]
theorem str_conv {P : Program} (w : World) (src dst e : TypeId) (hs : P.underlying src = some (.slice e)) (he : P.underlying e = some (.int .u8)) (hd : P.underlying dst = some .string) (v : Value) (n : Nat) (bs : List Nat) (h : Sl w v 1 n (byts bs)) :
    (convert src dst v).run P w = .ok (.string (strOf bs)) w := by
  rcases h with ⟨rfl, rfl, hb⟩ | ⟨x, c, rfl, hl, hc⟩
  · rw [run_convert_bytes_string w src dst e none 0 0 hs he hd]
    have : bs = [] := by simpa using hb
    subst this
    rfl
  · rw [run_convert_bytes_string w src dst e _ _ _ hs he hd]
    have h1 := run_loadCells_list (P := P) w x (byts bs) hc
    have hn : (byts bs).length = n := by simpa using hl
    rw [hn] at h1
    rw [run_bytesToString w x n c (bs.map (fun (n : Nat) => (n : Int))) (by rw [h1, List.map_map]; rfl), foldl_push]
    simp [strOf]
theorem strOf_inj {a b : List Nat} (ha : ∀ x ∈ a, x < 256) (hb : ∀ x ∈ b, x < 256) (h : strOf a = strOf b) : a = b := by
  have h1 : a.map UInt8.ofNat = b.map UInt8.ofNat := by
    have := congrArg (fun s => s.data.toList) h
    simpa [strOf] using this
  have h2 := congrArg (List.map UInt8.toNat) h1
  rw [List.map_map, List.map_map] at h2
  have key : ∀ l : List Nat, (∀ x ∈ l, x < 256) → l.map (UInt8.toNat ∘ UInt8.ofNat) = l := by
    intro l hl
    conv => rhs; rw [← List.map_id l]
    apply List.map_congr_left
    intro x hx
    have := hl x hx
    simp [UInt8.toNat_ofNat']
    omega
  rwa [key a ha, key b hb] at h2
theorem str_eq {a b : List Nat} (ha : ∀ x ∈ a, x < 256) (hb : ∀ x ∈ b, x < 256) : ((strOf a).toList == (strOf b).toList) = decide (a = b) := by
  rw [ByteArray.toList_eq, ByteArray.toList_eq]
  by_cases h : a = b
  · subst h; simp
  · rw [decide_eq_false h, beq_eq_false_iff_ne]
    intro e
    have h2 : (strOf a).data = (strOf b).data := Array.toList_inj.1 e
    exact h (strOf_inj ha hb (by cases hx : strOf a; cases hy : strOf b; rw [hx, hy] at h2; simp at h2; rw [h2]))
theorem bytesOf_lt (f : Nat → Bool) (n : Nat) : ∀ x ∈ bytesOf f n, x < 256 := by
  intro x hx
  simp only [bytesOf, List.mem_map] at hx
  obtain ⟨k, _, rfl⟩ := hx
  exact byt_lt f k
theorem bytesOf_ofB (bs : List Nat) (n : Nat) (hl : bs.length = (n + 7) / 8) (hb : ∀ x ∈ bs, x < 256) : bytesOf (ofB bs ((n + 7) / 8)) n = bs := by
  apply List.ext_getElem?
  intro k
  rw [bytesOf, List.getElem?_map]
  by_cases hk : k < (n + 7) / 8
  · have hk2 : k < bs.length := by omega
    have e : bs.getD k 0 = bs[k] := by rw [List.getD_eq_getElem?_getD, List.getElem?_eq_getElem hk2]; rfl
    rw [List.getElem?_range hk, List.getElem?_eq_getElem hk2, Option.map_some, byt_ofB bs _ k hk (by rw [e]; exact hb _ (List.getElem_mem hk2)), e]
  · rw [List.getElem?_eq_none (by simpa using hk), List.getElem?_eq_none (by omega)]
    rfl

theorem infoU8 : (Tryz.prog.info? 5).map (fun i => (i.zero, i.size, i.bytes)) = some (some (.int .u8 0), 1, 1) := by kernel_rfl

end Go.Proofs.YtjmfhcliggjdgaaGreatDoor

/- The reference of package bits: New, Bytes, Load; no condition. -/
namespace Go.Proofs.YtjmfhcliggjdgaaGreatDoor
open Go Go.RowKit

/-- A set of the reference at block b, its list at block g. -/
structure RSet (w : World) (b g n : Nat) (f : Nat → Bool) : Prop where
  head : ∃ c, Blk w b #[.slice (some ⟨g, 0, none⟩) n c] 102
  ne : g ≠ b
  list : ∃ cs : Array Value, Blk w g cs 4 ∧ ∀ k, k < n → cs[k]? = some (.bool (f k))
  small : n ≤ 65536
theorem RSet.lt {w : World} {b g n : Nat} {f : Nat → Bool} (h : RSet w b g n f) : b < w.heap.size ∧ g < w.heap.size := by
  obtain ⟨c, hc⟩ := h.head
  obtain ⟨cs, hcs, _⟩ := h.list
  exact ⟨hc.lt, hcs.lt⟩
theorem RSet.mod {S : Nat → Prop} {w w' : World} {b g n : Nat} {f : Nat → Bool} (h : RSet w b g n f) (hm : Mod S w w') (hb : ¬ S b) (hg : ¬ S g) : RSet w' b g n f := by
  obtain ⟨c, hc⟩ := h.head
  obtain ⟨cs, hcs, hk⟩ := h.list
  exact ⟨⟨c, hc.mod hm hb⟩, h.ne, ⟨cs, hcs.mod hm hg, hk⟩, h.small⟩
theorem RSet.drewN {w : World} {b g n : Nat} {f : Nat → Bool} (h : RSet w b g n f) (k : Nat) : RSet (w.drewN k) b g n f := ⟨h.head, h.ne, h.list, h.small⟩
theorem RSet.put {w : World} {b g n : Nat} {f : Nat → Bool} (h : RSet w b g n f) (q : Nat) (v : Value) (f' : Nat → Bool) (hv : v = .bool (f' q)) (hne : ∀ k, k ≠ q → f' k = f k) :
    RSet (w.setCell ⟨g, q, none⟩ v) b g n f' := by
  obtain ⟨c, hc⟩ := h.head
  obtain ⟨cs, hcs, hk⟩ := h.list
  refine ⟨⟨c, hc.setOther h.ne _⟩, h.ne, ⟨_, hcs.set q v, fun k hlt => ?_⟩, h.small⟩
  have h0 := hk k hlt
  have h1 := (Array.getElem?_eq_some_iff.1 h0).1
  by_cases e : k = q
  · subst e
    rw [Array.getElem?_setIfInBounds_self_of_lt h1, hv]
  · rw [Array.getElem?_setIfInBounds_ne (Ne.symm e), h0, hne k e]
theorem RSet.s0 {w : World} {b g n : Nat} {f : Nat → Bool} (h : RSet w b g n f) : ∃ c, w.cell? ⟨b, 0, none⟩ = some (.slice (some ⟨g, 0, none⟩) n c) := by
  obtain ⟨c, hc⟩ := h.head
  exact ⟨c, by rw [hc.cell]; rfl⟩
theorem RSet.at {w : World} {b g n : Nat} {f : Nat → Bool} (h : RSet w b g n f) {k : Nat} (hk : k < n) : w.cell? ⟨g, k, none⟩ = some (.bool (f k)) ∧ w.frozen? ⟨g, k, none⟩ = false := by
  obtain ⟨cs, hcs, h1⟩ := h.list
  exact ⟨by rw [hcs.cell]; exact h1 k hk, hcs.frozen k⟩
theorem RSet.ext {w : World} {b g n : Nat} {f f' : Nat → Bool} (h : RSet w b g n f) (e : ∀ k, k < n → f' k = f k) : RSet w b g n f' := by
  obtain ⟨cs, hcs, h1⟩ := h.list
  exact ⟨h.head, h.ne, ⟨cs, hcs, fun k hk => by rw [h1 k hk, e k hk]⟩, h.small⟩

theorem infoBool : (Tryz.prog.info? 4).map (fun i => (i.zero, i.size, i.bytes)) = some (some (.bool false), 1, 1) := by kernel_rfl
set_option maxHeartbeats 400000 in
theorem refNewBad (n : Int) (w : World) (h : n < 0 ∨ 65536 < n) :
    Calls Tryz.prog 41 #[.int .i64 n] w fun e w' => e = .returned (.tuple #[.pointer none, .int .i64 1]) ∧ w = w' := by
  go_enter Tryz.func41, Tryz.ntmps41
  rcases h with h | h
  · go_wp2
    go_ret2
    exact ⟨rfl, rfl⟩
  · have h2 : ¬ n < 0 := by omega
    go_wp2
    go_ret2
    exact ⟨rfl, rfl⟩

set_option maxHeartbeats 400000 in
theorem refNew (n : Nat) (w : World) (h : n ≤ 65536) :
    Calls Tryz.prog 41 #[.int .i64 n] w fun e w' => e = .returned (.tuple #[.pointer (some ⟨w.heap.size + 1, 0, none⟩), .int .i64 0]) ∧ RSet w' (w.heap.size + 1) w.heap.size n (fun _ => false) ∧ Mod (fun _ => False) w w' := by
  obtain ⟨i0, hi, hz0, hz1, hz2⟩ := info_parts infoBool
  have hmk := run_makeSlice (P := Tryz.prog) w 95 4 i0 (.bool false) Tryz.underlying95 hi hz0 .i64 .i64 (n : Int) (n : Int) (by omega) (Int.le_refl _) (by rw [hz1]; omega) (by rw [hz2]; omega) (by omega)
  rw [hz1] at hmk
  rw [Int.toNat_natCast] at hmk
  have h1 : ¬ (n : Int) < 0 := by omega
  have h2 : ¬ (65536 : Int) < n := by omega
  clear hi hz0 hz1 hz2
  go_enter Tryz.func41, Tryz.ntmps41
  go_wp2_with fail
  go_ret2
  refine ⟨rfl, ⟨⟨_, by have := Blk.new (w.alloc (.cells (madeCells #[Value.bool false] n) 4)) #[.slice (some ⟨w.heap.size, 0, none⟩) n n] 102; simpa using this⟩, by omega, ⟨_, (Blk.new w _ _).alloc _, fun k hk => ?_⟩, h⟩, ((Mod.refl _ w).alloc _).alloc _⟩
  rw [made_get _ _ _ rfl hk]
  rfl

/-- The first i of the places. -/
def upto (f : Nat → Bool) (i : Nat) : Nat → Bool := fun x => decide (x < i) && f x
theorem byt_upto_zero (f : Nat → Bool) (k : Nat) : byt (upto f 0) k = 0 := by
  have : upto f 0 = fun _ => false := by funext x; simp [upto]
  rw [this]; exact pk_false 8
theorem byt_upto_no (f : Nat → Bool) (i k : Nat) (h : f i = false ∨ k ≠ i / 8) : byt (upto f (i + 1)) k = byt (upto f i) k := by
  apply pk_ext
  intro j hj
  show (decide (8 * k + j < i + 1) && f (8 * k + j)) = (decide (8 * k + j < i) && f (8 * k + j))
  by_cases e : 8 * k + j = i
  · rcases h with h | h
    · rw [e, h]; simp
    · omega
  · congr 1
    simp; omega
theorem byt_upto_yes (f : Nat → Bool) (i : Nat) (h : f i = true) : ((byt (upto f i) (i / 8) : Int) + 2 ^ (i % 8)) % 256 = (byt (upto f (i + 1)) (i / 8) : Int) := by
  have e : byt (upto f (i + 1)) (i / 8) = 2 ^ (i % 8) + byt (upto f i) (i / 8) := by
    have hlt : byt (upto f i) (i / 8) < 2 ^ (i % 8) := by
      apply Nat.lt_pow_two_of_testBit
      intro j hj
      rw [testBit_byt]
      unfold upto
      have : ¬ (8 * (i / 8) + j < i) := by omega
      simp [this]
    apply Nat.eq_of_testBit_eq
    intro j
    rw [testBit_byt]
    rcases Nat.lt_trichotomy j (i % 8) with hj | hj | hj
    · rw [Nat.testBit_two_pow_add_gt hj, testBit_byt]
      congr 1
      unfold upto
      have a : 8 * (i / 8) + j < i := by omega
      have b : 8 * (i / 8) + j < i + 1 := by omega
      simp [a, b]
    · subst hj
      rw [Nat.testBit_two_pow_add_eq, testBit_byt]
      have a : 8 * (i / 8) + i % 8 = i := by omega
      have b : i % 8 < 8 := by omega
      rw [a]
      unfold upto
      simp [h, b]
    · have h2 : 2 ^ (i % 8) + byt (upto f i) (i / 8) < 2 ^ (i % 8 + 1) := by rw [Nat.pow_succ]; omega
      rw [tb_hi (n := i % 8 + 1) h2 (by omega)]
      unfold upto
      have : ¬ (8 * (i / 8) + j < i + 1) := by omega
      simp [this]
  have h3 := byt_lt (upto f (i + 1)) (i / 8)
  have h4 : (2 : Int) ^ (i % 8) = ((2 ^ (i % 8) : Nat) : Int) := by simp
  rw [h4, e]
  rw [e] at h3
  omega
theorem bytesOf_upto (f : Nat → Bool) (n : Nat) (h : ∀ x, n ≤ x → f x = false) : bytesOf (upto f n) n = bytesOf f n := by
  have : upto f n = f := by
    funext x
    unfold upto
    by_cases hx : x < n
    · simp [hx]
    · rw [h x (by omega)]; simp
  rw [this]
end Go.Proofs.YtjmfhcliggjdgaaGreatDoor

/- How many ones a word has, and how math/bits counts them; no condition. -/
namespace Go.Proofs.YtjmfhcliggjdgaaGreatDoor
open Go Go.RowKit

/-- How many of the first n places are ones. -/
def cnt (f : Nat → Bool) : Nat → Nat
  | 0 => 0
  | n + 1 => cnt f n + if f n then 1 else 0
theorem cnt_ext {f g : Nat → Bool} : ∀ {n : Nat}, (∀ i, i < n → f i = g i) → cnt f n = cnt g n
  | 0, _ => rfl
  | n + 1, h => by
    unfold cnt
    rw [cnt_ext (fun i hi => h i (by omega)), h n (by omega)]
theorem cnt_add (f : Nat → Bool) (m : Nat) : ∀ n, cnt f (m + n) = cnt f m + cnt (fun i => f (m + i)) n
  | 0 => rfl
  | n + 1 => by
    show cnt f (m + n) + _ = _
    rw [cnt_add f m n]
    show cnt f m + cnt (fun i => f (m + i)) n + (if f (m + n) then 1 else 0) = cnt f m + (cnt (fun i => f (m + i)) n + (if f (m + n) then 1 else 0))
    omega
theorem cnt_le (f : Nat → Bool) : ∀ n, cnt f n ≤ n
  | 0 => Nat.le_refl _
  | n + 1 => by
    unfold cnt
    have := cnt_le f n
    split <;> omega
theorem cnt_false : ∀ n, cnt (fun _ => false) n = 0
  | 0 => rfl
  | n + 1 => by unfold cnt; rw [cnt_false n]; rfl
/-- Behind the last one nothing is counted. -/
theorem cnt_out {f : Nat → Bool} {n : Nat} (h : ∀ i, n ≤ i → f i = false) : ∀ m, n ≤ m → cnt f m = cnt f n
  | 0, hm => by have : n = 0 := by omega
                rw [this]
  | m + 1, hm => by
    by_cases e : n = m + 1
    · rw [e]
    · show cnt f m + (if f m then 1 else 0) = _
      rw [cnt_out h m (by omega), h m (by omega)]
      simp

/-- A number of digits to the base 256. -/
def vB : List Nat → Nat
  | [] => 0
  | b :: t => b + 256 * vB t
/-- One byte, so many times. -/
def rB (m : Nat) : Nat → Nat
  | 0 => 0
  | n + 1 => m + 256 * rB m n
theorem and_digit {b m : Nat} (q r : Nat) (hb : b < 256) (hm : m < 256) : (b + 256 * q) &&& (m + 256 * r) = (b &&& m) + 256 * (q &&& r) := by
  apply Nat.eq_of_testBit_eq
  intro i
  have hbm : b &&& m < 2 ^ 8 := Nat.and_lt_two_pow _ (by omega)
  rw [Nat.testBit_and, Nat.add_comm b, Nat.add_comm m, Nat.add_comm (b &&& m), show (256 : Nat) = 2 ^ 8 from rfl,
    Nat.testBit_two_pow_mul_add _ (by omega), Nat.testBit_two_pow_mul_add _ (by omega), Nat.testBit_two_pow_mul_add _ hbm]
  split <;> rw [Nat.testBit_and]
theorem and_v (m : Nat) (hm : m < 256) : ∀ l : List Nat, (∀ b ∈ l, b < 256) → vB l &&& rB m l.length = vB (l.map (· &&& m))
  | [], _ => by simp [vB]
  | b :: t, h => by
    show (b + 256 * vB t) &&& (m + 256 * rB m t.length) = _
    rw [and_digit _ _ (h b (by simp)) hm, and_v m hm t (fun x hx => h x (by simp [hx]))]
    rfl
/-- A shift by less than a byte, masked. -/
theorem shr_digit {b m : Nat} (s q r : Nat) (hs : s ≤ 8) (hb : b < 256) (hm : m < 2 ^ (8 - s)) : ((b + 256 * q) / 2 ^ s) &&& (m + 256 * r) = (b / 2 ^ s &&& m) + 256 * (q / 2 ^ s &&& r) := by
  have hm8 : m < 2 ^ 8 := Nat.lt_of_lt_of_le hm (Nat.pow_le_pow_right (by omega) (by omega))
  apply Nat.eq_of_testBit_eq
  intro i
  have hbm : b / 2 ^ s &&& m < 2 ^ 8 := Nat.and_lt_two_pow _ hm8
  rw [Nat.testBit_and, Nat.add_comm b, Nat.add_comm m, Nat.add_comm (b / 2 ^ s &&& m), show (256 : Nat) = 2 ^ 8 from rfl,
    ← Nat.shiftRight_eq_div_pow, Nat.testBit_shiftRight, Nat.testBit_two_pow_mul_add _ (by omega), Nat.testBit_two_pow_mul_add _ hm8, Nat.testBit_two_pow_mul_add _ hbm]
  by_cases h8 : i < 8
  · rw [if_pos h8, if_pos h8]
    by_cases h9 : s + i < 8
    · rw [if_pos h9, Nat.testBit_and, ← Nat.shiftRight_eq_div_pow, Nat.testBit_shiftRight]
    · have : m.testBit i = false := tb_hi hm (by omega)
      rw [Nat.testBit_and, this]; simp
  · rw [if_neg h8, if_neg h8, if_neg (by omega), Nat.testBit_and, ← Nat.shiftRight_eq_div_pow, Nat.testBit_shiftRight]
    congr 2
    omega
theorem shr_v (s m : Nat) (hs : s ≤ 8) (hm : m < 2 ^ (8 - s)) : ∀ l : List Nat, (∀ b ∈ l, b < 256) → (vB l / 2 ^ s) &&& rB m l.length = vB (l.map fun b => b / 2 ^ s &&& m)
  | [], _ => by simp [vB, rB]
  | b :: t, h => by
    show ((b + 256 * vB t) / 2 ^ s) &&& (m + 256 * rB m t.length) = _
    rw [shr_digit _ _ _ hs (h b (by simp)) hm, shr_v s m hs hm t (fun x hx => h x (by simp [hx]))]
    rfl
theorem add_v (f g : Nat → Nat) : ∀ l : List Nat, vB (l.map f) + vB (l.map g) = vB (l.map fun b => f b + g b)
  | [] => rfl
  | b :: t => by
    have := add_v f g t
    simp only [List.map_cons, vB]
    omega
theorem vB_lt : ∀ l : List Nat, (∀ b ∈ l, b < 256) → vB l < 256 ^ l.length
  | [], _ => by simp [vB]
  | b :: t, h => by
    have h1 := vB_lt t (fun x hx => h x (by simp [hx]))
    have h2 := h b (by simp)
    show b + 256 * vB t < 256 ^ (t.length + 1)
    rw [Nat.pow_succ]
    omega
theorem vB_mod16 : ∀ l : List Nat, (∀ b ∈ l, b % 16 ≤ 4) → vB l % 16 ≤ 4
  | [], _ => by simp [vB]
  | b :: t, h => by
    have := h b (by simp)
    show (b + 256 * vB t) % 16 ≤ 4
    omega
theorem half_v : ∀ l : List Nat, (∀ b ∈ l, b % 16 ≤ 4 ∧ b / 16 ≤ 4) → (vB l / 16 + vB l) &&& rB 15 l.length = vB (l.map fun b => b / 16 + b % 16)
  | [], _ => by simp [vB]
  | b :: t, h => by
    have h0 := h b (by simp)
    have h1 := half_v t (fun x hx => h x (by simp [hx]))
    have h2 := vB_mod16 t (fun x hx => (h x (by simp [hx])).1)
    have e : (b + 256 * vB t) / 16 + (b + 256 * vB t) = (b / 16 + b + 16 * (vB t % 16)) + 256 * (vB t / 16 + vB t) := by omega
    show ((b + 256 * vB t) / 16 + (b + 256 * vB t)) &&& (15 + 256 * rB 15 t.length) = _
    rw [e, and_digit _ _ (by omega) (by omega), h1]
    have e2 : (b / 16 + b + 16 * (vB t % 16)) &&& 15 = b / 16 + b % 16 := by
      rw [show (15 : Nat) = 2 ^ 4 - 1 from rfl, Nat.and_two_pow_sub_one_eq_mod]
      omega
    rw [e2]
    rfl

def F1 (b : Nat) : Nat := (b / 2 &&& 85) + (b &&& 85)
def F2 (b : Nat) : Nat := (b / 4 &&& 51) + (b &&& 51)
def F3 (b : Nat) : Nat := b / 16 + b % 16
theorem F_all : ∀ b, b < 256 → F1 b < 256 ∧ F2 (F1 b) < 256 ∧ F2 (F1 b) % 16 ≤ 4 ∧ F2 (F1 b) / 16 ≤ 4 ∧ F3 (F2 (F1 b)) ≤ 8 := by decide +kernel
/-- How many ones a byte has. -/
theorem F_pop (h : Nat → Bool) : F3 (F2 (F1 (pk h 8))) = cnt h 8 := by
  have key : ∀ a0 a1 a2 a3 a4 a5 a6 a7 : Bool, F3 (F2 (F1 ((((((((0 ||| if a0 then 1 else 0) ||| if a1 then 2 else 0) ||| if a2 then 4 else 0) ||| if a3 then 8 else 0) ||| if a4 then 16 else 0) ||| if a5 then 32 else 0) ||| if a6 then 64 else 0) ||| if a7 then 128 else 0)))
      = ((((((((0 + if a0 then 1 else 0) + if a1 then 1 else 0) + if a2 then 1 else 0) + if a3 then 1 else 0) + if a4 then 1 else 0) + if a5 then 1 else 0) + if a6 then 1 else 0) + if a7 then 1 else 0) := by decide +kernel
  exact key (h 0) (h 1) (h 2) (h 3) (h 4) (h 5) (h 6) (h 7)

/-- The bytes of the first places. -/
def bl (h : Nat → Bool) : Nat → List Nat
  | 0 => []
  | m + 1 => pk h 8 :: bl (fun i => h (8 + i)) m
theorem bl_len : ∀ (m : Nat) (h : Nat → Bool), (bl h m).length = m
  | 0, _ => rfl
  | m + 1, h => by simp [bl, bl_len m]
theorem bl_lt : ∀ (m : Nat) (h : Nat → Bool), ∀ b ∈ bl h m, b < 256
  | 0, _, b, hb => by simp [bl] at hb
  | m + 1, h, b, hb => by
    rcases List.mem_cons.1 hb with rfl | hb
    · exact pk_lt h 8
    · exact bl_lt m _ b hb
theorem pk_split (h : Nat → Bool) (n : Nat) : pk h (8 + n) = pk h 8 + 256 * pk (fun i => h (8 + i)) n := by
  apply Nat.eq_of_testBit_eq
  intro i
  rw [Nat.add_comm (pk h 8), show (256 : Nat) = 2 ^ 8 from rfl, Nat.testBit_two_pow_mul_add _ (pk_lt h 8), testBit_pk, testBit_pk, testBit_pk]
  by_cases h8 : i < 8
  · have h9 : i < 8 + n := by omega
    simp [h8, h9]
  · have e : 8 + (i - 8) = i := by omega
    have e2 : (i - 8 < n) = (i < 8 + n) := by simp; omega
    simp [h8, e, e2]
theorem pk_bl : ∀ (m : Nat) (h : Nat → Bool), pk h (8 * m) = vB (bl h m)
  | 0, _ => rfl
  | m + 1, h => by
    rw [show 8 * (m + 1) = 8 + 8 * m by omega, pk_split, pk_bl m]
    rfl
def sumL : List Nat → Nat
  | [] => 0
  | b :: t => b + sumL t
theorem cnt_bl : ∀ (m : Nat) (h : Nat → Bool), sumL ((bl h m).map fun b => F3 (F2 (F1 b))) = cnt h (8 * m)
  | 0, _ => rfl
  | m + 1, h => by
    rw [show 8 * (m + 1) = 8 + 8 * m by omega, cnt_add, ← cnt_bl m, ← F_pop]
    rfl
theorem vB_d1 (a : Nat) (t : List Nat) (ha : a < 256) : vB (a :: t) / 256 = vB t := by
  show (a + 256 * vB t) / 256 = _
  omega
theorem vB_d2 (a b : Nat) (t : List Nat) (ha : a < 256) (hb : b < 256) : vB (a :: b :: t) / 65536 = vB t := by
  show (a + 256 * (b + 256 * vB t)) / 65536 = _
  omega
theorem vB_d4 (a b c d : Nat) (t : List Nat) (ha : a < 256) (hb : b < 256) (hc : c < 256) (hd : d < 256) : vB (a :: b :: c :: d :: t) / 4294967296 = vB t := by
  rw [show (4294967296 : Nat) = 65536 * 65536 from rfl, ← Nat.div_div_eq_div_mul, vB_d2 _ _ _ ha hb, vB_d2 _ _ _ hc hd]
theorem vB_b8 : ∀ l : List Nat, (∀ b ∈ l, b ≤ 127) → vB l ≤ rB 127 l.length
  | [], _ => Nat.le_refl _
  | b :: t, h => by
    have g1 := vB_b8 t (fun x hx => h x (by simp [hx]))
    have g2 := h b (by simp)
    show b + 256 * vB t ≤ 127 + 256 * rB 127 t.length
    omega
theorem vB_b8' (l : List Nat) (hl : l.length = 8) (h : ∀ b ∈ l, b ≤ 127) : vB l < 9223372036854775808 := by
  have := vB_b8 l h
  rw [hl] at this
  exact Nat.lt_of_le_of_lt this (by decide)
/-- The tail of the count: eight small bytes are summed. -/
theorem sum8 (c0 c1 c2 c3 c4 c5 c6 c7 x x4 x5 x6 : Nat) (h0 : c0 ≤ 8) (h1 : c1 ≤ 8) (h2 : c2 ≤ 8) (h3 : c3 ≤ 8) (h4 : c4 ≤ 8) (h5 : c5 ≤ 8) (h6 : c6 ≤ 8) (h7 : c7 ≤ 8)
    (hx : x = vB [c0, c1, c2, c3, c4, c5, c6, c7]) (e4 : x4 = x + x / 256) (e5 : x5 = x4 + x4 / 65536) (e6 : x6 = x5 + x5 / 4294967296) :
    x6 < 9223372036854775808 ∧ x5 < 9223372036854775808 ∧ x4 < 9223372036854775808 ∧ x6 % 128 = c0 + (c1 + (c2 + (c3 + (c4 + (c5 + (c6 + c7)))))) := by
  have q4 : x4 = vB [c0 + c1, c1 + c2, c2 + c3, c3 + c4, c4 + c5, c5 + c6, c6 + c7, c7] := by
    rw [e4, hx, vB_d1 _ _ (by omega)]
    simp only [vB]; omega
  have q5 : x5 = vB [c0 + c1 + (c2 + c3), c1 + c2 + (c3 + c4), c2 + c3 + (c4 + c5), c3 + c4 + (c5 + c6), c4 + c5 + (c6 + c7), c5 + c6 + c7, c6 + c7, c7] := by
    rw [e5, q4, vB_d2 _ _ _ (by omega) (by omega)]
    simp only [vB]; omega
  have q6 : x6 = vB [c0 + c1 + (c2 + c3) + (c4 + c5 + (c6 + c7)), c1 + c2 + (c3 + c4) + (c5 + c6 + c7), c2 + c3 + (c4 + c5) + (c6 + c7), c3 + c4 + (c5 + c6) + c7, c4 + c5 + (c6 + c7), c5 + c6 + c7, c6 + c7, c7] := by
    rw [e6, q5, vB_d4 _ _ _ _ _ (by omega) (by omega) (by omega) (by omega)]
    simp only [vB]; omega
  clear e4 e5 e6 hx
  refine ⟨?_, ?_, ?_, ?_⟩
  · rw [q6]; refine vB_b8' _ rfl ?_; simp only [List.mem_cons, List.not_mem_nil, or_false]; rintro b (h | h | h | h | h | h | h | h) <;> omega
  · rw [q5]; refine vB_b8' _ rfl ?_; simp only [List.mem_cons, List.not_mem_nil, or_false]; rintro b (h | h | h | h | h | h | h | h) <;> omega
  · rw [q4]; refine vB_b8' _ rfl ?_; simp only [List.mem_cons, List.not_mem_nil, or_false]; rintro b (h | h | h | h | h | h | h | h) <;> omega
  · rw [q6]
    have : ∀ (a : Nat) (t : List Nat), a < 128 → vB (a :: t) % 128 = a := by
      intro a t ha
      show (a + 256 * vB t) % 128 = a
      omega
    rw [this _ _ (by omega)]
    omega

theorem and127 (a : Nat) (ha : a < 9223372036854775808) : bits .and .i64 (a : Int) 127 = ((a % 128 : Nat) : Int) := by
  have h1 : (BitVec.ofInt 64 (a : Int)).toNat = a := by
    rw [BitVec.ofInt_natCast, BitVec.toNat_ofNat]; exact Nat.mod_eq_of_lt (by omega)
  have h2 : (BitVec.ofInt 64 127).toNat = 127 := by decide
  show IntKind.i64.wrap ((BitVec.ofInt 64 (a : Int) &&& BitVec.ofInt 64 127).toNat : Int) = _
  rw [BitVec.toNat_and, h1, h2, show (127 : Nat) = 2 ^ 7 - 1 from rfl, Nat.and_two_pow_sub_one_eq_mod, IntKind.wrap_i64]
  omega
/-- WHAT math/bits COUNTS, STEP BY STEP. -/
theorem pop_steps (h : Nat → Bool) : ∃ x1 x2 x3 x4 x5 x6 : Nat,
    IntKind.u64.wrap (bits .and .u64 ((pk h 64 : Nat) / 2 : Int) 6148914691236517205 + bits .and .u64 ((pk h 64 : Nat) : Int) 6148914691236517205) = (x1 : Int) ∧
    IntKind.u64.wrap (bits .and .u64 ((x1 : Int) / 4) 3689348814741910323 + bits .and .u64 (x1 : Int) 3689348814741910323) = (x2 : Int) ∧
    bits .and .u64 (IntKind.u64.wrap ((x2 : Int) / 16 + (x2 : Int))) 1085102592571150095 = (x3 : Int) ∧
    IntKind.u64.wrap ((x3 : Int) + (x3 : Int) / 256) = (x4 : Int) ∧
    IntKind.u64.wrap ((x4 : Int) + (x4 : Int) / 65536) = (x5 : Int) ∧
    IntKind.u64.wrap ((x5 : Int) + (x5 : Int) / 4294967296) = (x6 : Int) ∧
    bits .and .i64 (IntKind.i64.wrap (x6 : Int)) 127 = ((cnt h 64 : Nat) : Int) := by
  obtain ⟨l, hl⟩ : ∃ l, l = bl h 8 := ⟨_, rfl⟩
  have hlen : l.length = 8 := by rw [hl, bl_len]
  have hlt : ∀ b ∈ l, b < 256 := by rw [hl]; exact bl_lt 8 h
  have hpk : pk h 64 = vB l := by rw [hl]; exact pk_bl 8 h
  have hcnt : sumL (l.map fun b => F3 (F2 (F1 b))) = cnt h 64 := by rw [hl]; exact cnt_bl 8 h
  have h256 : (256 : Nat) ^ 8 = 18446744073709551616 := by decide
  have hF : ∀ b ∈ l, F1 b < 256 ∧ F2 (F1 b) < 256 ∧ F2 (F1 b) % 16 ≤ 4 ∧ F2 (F1 b) / 16 ≤ 4 ∧ F3 (F2 (F1 b)) ≤ 8 := fun b hb => F_all b (hlt b hb)
  have r55 : rB 85 8 = 6148914691236517205 := by decide
  have r33 : rB 51 8 = 3689348814741910323 := by decide
  have r0f : rB 15 8 = 1085102592571150095 := by decide
  have hx0 : vB l < 18446744073709551616 := by rw [← h256, ← hlen]; exact vB_lt l hlt
  -- the first step
  have a1 : (vB l / 2) &&& 6148914691236517205 = vB (l.map fun b => b / 2 &&& 85) := by
    have := shr_v 1 85 (by decide) (by decide) l hlt
    rw [hlen, r55] at this
    exact this
  have a2 : vB l &&& 6148914691236517205 = vB (l.map fun b => b &&& 85) := by
    have := and_v 85 (by decide) l hlt
    rw [hlen, r55] at this
    exact this
  have a3 : vB (l.map fun b => b / 2 &&& 85) + vB (l.map fun b => b &&& 85) = vB (l.map F1) := add_v _ _ l
  have l1 : ∀ b ∈ l.map F1, b < 256 := by
    intro b hb
    obtain ⟨c, hc, rfl⟩ := List.mem_map.1 hb
    exact (hF c hc).1
  have hx1 : vB (l.map F1) < 18446744073709551616 := by rw [← h256, ← hlen, ← List.length_map (f := F1)]; exact vB_lt _ l1
  have b1 : (vB (l.map F1) / 4) &&& 3689348814741910323 = vB ((l.map F1).map fun b => b / 4 &&& 51) := by
    have := shr_v 2 51 (by decide) (by decide) _ l1
    rw [List.length_map, hlen, r33] at this
    exact this
  have b2 : vB (l.map F1) &&& 3689348814741910323 = vB ((l.map F1).map fun b => b &&& 51) := by
    have := and_v 51 (by decide) _ l1
    rw [List.length_map, hlen, r33] at this
    exact this
  have b3 : vB ((l.map F1).map fun b => b / 4 &&& 51) + vB ((l.map F1).map fun b => b &&& 51) = vB ((l.map F1).map F2) := add_v _ _ _
  have l2 : ∀ b ∈ (l.map F1).map F2, b < 256 := by
    intro b hb
    obtain ⟨c, hc, rfl⟩ := List.mem_map.1 hb
    obtain ⟨d, hd, rfl⟩ := List.mem_map.1 hc
    exact (hF d hd).2.1
  have l3 : ∀ b ∈ (l.map F1).map F2, b % 16 ≤ 4 ∧ b / 16 ≤ 4 := by
    intro b hb
    obtain ⟨c, hc, rfl⟩ := List.mem_map.1 hb
    obtain ⟨d, hd, rfl⟩ := List.mem_map.1 hc
    exact ⟨(hF d hd).2.2.1, (hF d hd).2.2.2.1⟩
  have hx2 : vB ((l.map F1).map F2) < 18446744073709551616 := by
    have := vB_lt _ l2
    rw [List.length_map, List.length_map, hlen, h256] at this
    exact this
  have c1 : (vB ((l.map F1).map F2) / 16 + vB ((l.map F1).map F2)) &&& 1085102592571150095 = vB (((l.map F1).map F2).map F3) := by
    have := half_v _ l3
    rw [List.length_map, List.length_map, hlen, r0f] at this
    exact this
  have hcc : sumL (((l.map F1).map F2).map F3) = cnt h 64 := by rw [← hcnt, List.map_map, List.map_map]; rfl
  have l4 : ∀ b ∈ ((l.map F1).map F2).map F3, b ≤ 8 := by
    intro b hb
    obtain ⟨c, hc, rfl⟩ := List.mem_map.1 hb
    obtain ⟨d, hd, rfl⟩ := List.mem_map.1 hc
    obtain ⟨e, he, rfl⟩ := List.mem_map.1 hd
    exact (hF e he).2.2.2.2
  have hl4 : (((l.map F1).map F2).map F3).length = 8 := by simp [hlen]
  -- a bound: the sum of the halves does not overflow
  have hh : vB ((l.map F1).map F2) / 16 + vB ((l.map F1).map F2) < 18446744073709551616 := by
    have hm : ∀ l : List Nat, (∀ b ∈ l, b / 16 ≤ 4 ∧ b % 16 ≤ 4) → vB l ≤ rB 68 l.length := by
      intro l
      induction l with
      | nil => intro _; exact Nat.le_refl _
      | cons b t ih =>
        intro hl
        have g1 := ih (fun x hx => hl x (by simp [hx]))
        have g2 := hl b (by simp)
        show b + 256 * vB t ≤ 68 + 256 * rB 68 t.length
        omega
    have g := hm _ (fun b hb => ⟨(l3 b hb).2, (l3 b hb).1⟩)
    rw [List.length_map, List.length_map, hlen] at g
    have r44 : rB 68 8 = 4919131752989213764 := by decide
    omega
  obtain ⟨c, hc⟩ : ∃ c, c = ((l.map F1).map F2).map F3 := ⟨_, rfl⟩
  rw [← hc] at c1 hcc l4 hl4
  have an : ∀ (a m : Nat), a < 18446744073709551616 → m < 18446744073709551616 → bits .and .u64 (a : Int) (m : Int) = ((a &&& m : Nat) : Int) := fun a m ha hm => bits_and_u64_nat a m ha hm
  have wr : ∀ a : Nat, a < 18446744073709551616 → IntKind.u64.wrap (a : Int) = (a : Int) := fun a ha => by rw [IntKind.wrap_u64]; omega
  obtain ⟨c0, k0, rfl⟩ : ∃ c0 k, c = c0 :: k := by cases c with | nil => simp at hl4 | cons a b => exact ⟨a, b, rfl⟩
  obtain ⟨c1', k1, rfl⟩ : ∃ c0 k, k0 = c0 :: k := by cases k0 with | nil => simp at hl4 | cons a b => exact ⟨a, b, rfl⟩
  obtain ⟨c2, k2, rfl⟩ : ∃ c0 k, k1 = c0 :: k := by cases k1 with | nil => simp at hl4 | cons a b => exact ⟨a, b, rfl⟩
  obtain ⟨c3, k3, rfl⟩ : ∃ c0 k, k2 = c0 :: k := by cases k2 with | nil => simp at hl4 | cons a b => exact ⟨a, b, rfl⟩
  obtain ⟨c4, k4, rfl⟩ : ∃ c0 k, k3 = c0 :: k := by cases k3 with | nil => simp at hl4 | cons a b => exact ⟨a, b, rfl⟩
  obtain ⟨c5, k5, rfl⟩ : ∃ c0 k, k4 = c0 :: k := by cases k4 with | nil => simp at hl4 | cons a b => exact ⟨a, b, rfl⟩
  obtain ⟨c6, k6, rfl⟩ : ∃ c0 k, k5 = c0 :: k := by cases k5 with | nil => simp at hl4 | cons a b => exact ⟨a, b, rfl⟩
  obtain ⟨c7, k7, rfl⟩ : ∃ c0 k, k6 = c0 :: k := by cases k6 with | nil => simp at hl4 | cons a b => exact ⟨a, b, rfl⟩
  obtain rfl : k7 = [] := by cases k7 with | nil => rfl | cons a b => simp at hl4
  have hl4' : ∀ b, b = c0 ∨ b = c1' ∨ b = c2 ∨ b = c3 ∨ b = c4 ∨ b = c5 ∨ b = c6 ∨ b = c7 → b ≤ 8 := fun b hb => l4 b (by simpa using hb)
  obtain ⟨x3, hx3⟩ : ∃ x3, x3 = vB [c0, c1', c2, c3, c4, c5, c6, c7] := ⟨_, rfl⟩
  obtain ⟨s6, s5, s4, s7⟩ := sum8 c0 c1' c2 c3 c4 c5 c6 c7 x3 _ _ _ (hl4' _ (by simp)) (hl4' _ (by simp)) (hl4' _ (by simp)) (hl4' _ (by simp)) (hl4' _ (by simp)) (hl4' _ (by simp)) (hl4' _ (by simp)) (hl4' _ (by simp)) hx3 rfl rfl rfl
  rw [← hx3] at c1
  refine ⟨vB (l.map F1), vB ((l.map F1).map F2), x3, x3 + x3 / 256, x3 + x3 / 256 + (x3 + x3 / 256) / 65536, x3 + x3 / 256 + (x3 + x3 / 256) / 65536 + (x3 + x3 / 256 + (x3 + x3 / 256) / 65536) / 4294967296, ?_, ?_, ?_, ?_, ?_, ?_, ?_⟩
  · rw [hpk]
    have e1 := an (vB l / 2) 6148914691236517205 (by omega) (by decide)
    have e2 := an (vB l) 6148914691236517205 hx0 (by decide)
    rw [a1] at e1
    rw [a2] at e2
    have e3 := wr _ hx1
    rw [← a3] at e3 ⊢
    rw [← e3]
    simp only [Int.natCast_add]
    rw [← e1, ← e2]
    rfl
  · have e1 := an (vB (l.map F1) / 4) 3689348814741910323 (by omega) (by decide)
    have e2 := an (vB (l.map F1)) 3689348814741910323 hx1 (by decide)
    rw [b1] at e1
    rw [b2] at e2
    have e3 := wr _ hx2
    rw [← b3] at e3 ⊢
    rw [← e3]
    simp only [Int.natCast_add]
    rw [← e1, ← e2]
    rfl
  · have e1 := an _ 1085102592571150095 hh (by decide)
    rw [c1] at e1
    have e3 := wr _ hh
    rw [← e1, ← e3]
    rfl
  · rw [← wr (x3 + x3 / 256) (by omega)]; rfl
  · rw [← wr (x3 + x3 / 256 + (x3 + x3 / 256) / 65536) (by omega)]; rfl
  · rw [← wr (x3 + x3 / 256 + (x3 + x3 / 256) / 65536 + (x3 + x3 / 256 + (x3 + x3 / 256) / 65536) / 4294967296) (by omega)]; rfl
  · have hs : cnt h 64 = c0 + (c1' + (c2 + (c3 + (c4 + (c5 + (c6 + c7)))))) := by rw [← hcc]; rfl
    rw [hs, ← s7]
    generalize x3 + x3 / 256 + (x3 + x3 / 256) / 65536 + (x3 + x3 / 256 + (x3 + x3 / 256) / 65536) / 4294967296 = x6 at s6
    rw [show IntKind.i64.wrap (x6 : Int) = (x6 : Int) by rw [IntKind.wrap_i64]; omega]
    exact and127 x6 s6
end Go.Proofs.YtjmfhcliggjdgaaGreatDoor

/- Package bits: how many ones; no condition. -/
namespace Go.Proofs.YtjmfhcliggjdgaaGreatDoor
open Go Go.RowKit Go.IntWalk
set_option maxHeartbeats 400000 in
theorem onesAny (h : Nat → Bool) (x : Nat) (hx : x = pk h 64) (w : World) : Calls Tryz.prog 55 #[.int .u64 x] w fun e w' => e = .returned (.int .i64 (cnt h 64 : Nat)) ∧ w = w' := by
  obtain ⟨x1, x2, x3, x4, x5, x6, e1, e2, e3, e4, e5, e6, e7⟩ := pop_steps h
  rw [← hx] at e1
  clear hx
  have E7 := Lib.hid e7
  clear e7
  go_enter Tryz.func55, Tryz.ntmps55
  go_wp2_with fail
  go_ret
  exact ⟨congrArg (fun v => Ending.returned (.int .i64 v)) (by rw [← i64_left, E7.out]), rfl⟩

theorem cnt_words (f : Nat → Bool) (k : Nat) : cnt f (64 * (k + 1)) = cnt f (64 * k) + cnt (fun j => f (64 * k + j)) 64 := by
  rw [show 64 * (k + 1) = 64 * k + 64 by omega, cnt_add]

set_option maxHeartbeats 400000 in
theorem bitsCount (b g n : Nat) (f : Nat → Bool) (w : World) (h : BSet w b g n f) :
    Calls Tryz.prog 24 #[.pointer (some ⟨b, 0, none⟩)] w fun e w' => e = .returned (.int .i64 (cnt f n : Nat)) ∧ w = w' := by
  obtain ⟨c, d3⟩ := h.s1
  have hsm := h.small
  have H := Lib.hid h
  clear h
  obtain ⟨m, hm⟩ : ∃ m, m = (n + 63) / 64 := ⟨_, rfl⟩
  have hm9 : m ≤ 1024 := by omega
  have HM := Lib.hid hm
  rw [← hm] at d3
  clear hm hsm
  go_enter Tryz.func24, Tryz.ntmps24
  go_wp2_with fail
  go_loopw [3, 11] (fun s i wr => ∃ k : Nat, k ≤ m ∧ i = .int .i64 k ∧ s = .int .i64 (cnt f (64 * k) : Nat) ∧ wr = w) (fun _ i _ => m - (intOf i).toNat)
  case atStart => exact ⟨0, by omega, rfl, rfl, rfl⟩
  case round =>
    obtain ⟨k, hk, rfl, rfl, rfl⟩ := hrel
    by_cases hlt : k < m
    · obtain ⟨d1, _⟩ := H.out.word (k := k) (by rw [← HM.out]; exact hlt)
      have hc := cnt_words f k
      have hc2 := cnt_le (fun j => f (64 * k + j)) 64
      have hc3 := cnt_le f (64 * k)
      obtain ⟨W, hW⟩ : ∃ W, W = wd f k := ⟨_, rfl⟩
      rw [← hW] at d1
      obtain ⟨c1, hc1⟩ : ∃ c1, c1 = cnt f (64 * k) := ⟨_, rfl⟩
      obtain ⟨c2, hc2'⟩ : ∃ c2, c2 = cnt (fun j => f (64 * k + j)) 64 := ⟨_, rfl⟩
      rw [← hc1] at hc3 hc ⊢
      rw [← hc2'] at hc hc2
      have HC := Lib.hid hc
      have HW := Lib.hid hW
      have HC2 := Lib.hid hc2'
      clear hc hW hc1 hc2'
      go_wp2_with fail
      refine (onesAny (fun j => f (64 * k + j)) W (by rw [HW.out]; rfl) _).mono ?_; rintro e w' ⟨rfl, rfl⟩
      rw [← HC2.out]
      go_wp2_with fail
      exact ⟨⟨k + 1, by omega, by go_num, by rw [HC.out]; simp, trivial⟩, by simp [intOf]; omega⟩
    · have hkm : k = m := by omega
      have e : cnt f (64 * k) = cnt f n := cnt_out H.out.out _ (by rw [hkm, HM.out]; omega)
      rw [e]
      clear e hkm
      go_wp2_with fail
      go_ret
      exact ⟨rfl, rfl⟩
end Go.Proofs.YtjmfhcliggjdgaaGreatDoor

/- Package bits: Next, Has; no condition but the library's table. -/
namespace Go.Proofs.YtjmfhcliggjdgaaGreatDoor
open Go Go.RowKit Go.IntWalk

/-- The library's table, in its variable. -/
def gTab : Nat := 0
def TabW (w : World) : Prop := TabAt gTab Lib.deBruijn64tab w
theorem TabW.mod {S : Nat → Prop} {w w' : World} (h : TabW w) (hm : Mod S w w') (hS : ¬ S gTab) : TabW w' := fun j hj => hm.cell (h j hj) hS
theorem TabW.drewN {w : World} (h : TabW w) (k : Nat) : TabW (w.drewN k) := h
theorem TabW.lt {w : World} (h : TabW w) : gTab < w.heap.size := World.block_lt_of_cell? w _ (h 0 (by decide))

theorem IntKind.wrap_u64_mod (n : Int) : IntKind.u64.wrap n = n % 18446744073709551616 := IntKind.wrap_u64 n
set_option maxRecDepth 100000 in
set_option maxHeartbeats 1000000 in
theorem tz_core (x k idx : Nat) (w : World) (hx0 : ((x : Int) == 0) = false)
    (key : IntKind.u64.wrap (bits BinOp.and IntKind.u64 (x : Int) (IntKind.u64.wrap (-(x : Int))) * 285870213051353865) / 288230376151711744 = (idx : Int))
    (hi : idx < 64) (hk : k < 64) (hcell : w.cell? ⟨gTab, idx, none⟩ = some (.int .u8 k)) :
    Calls Tryz.prog 86 #[.int .u64 x] w fun e w' => e = .returned (.int .i64 k) ∧ w = w' := by
  unfold gTab at hcell
  go_enter Tryz.func86, Tryz.ntmps86
  go_wp2_with (simp only [key])
  go_ret
  exact ⟨rfl, rfl⟩
theorem tzAny (x : Nat) (hx : x < 18446744073709551616) (hx0 : x ≠ 0) (w : World) (hT : TabW w) :
    Calls Tryz.prog 86 #[.int .u64 x] w fun e w' => e = .returned (.int .i64 (Lib.ctz 64 x : Nat)) ∧ w = w' := by
  obtain ⟨hlow, hk⟩ := Lib.lowest_bit 64 x hx0 hx
  obtain ⟨hi, htab⟩ := Lib.deBruijn64_at _ hk
  have hcell := hT _ hi
  rw [htab] at hcell
  exact tz_core x _ _ w (by simp; omega) (tz64_key x _ hx hx0 hlow) hi hk hcell

/-- The lowest one of a word. -/
theorem ctz_pk (h : Nat → Bool) (h0 : pk h 64 ≠ 0) : Lib.ctz 64 (pk h 64) < 64 ∧ h (Lib.ctz 64 (pk h 64)) = true ∧ ∀ j, j < Lib.ctz 64 (pk h 64) → h j = false := by
  unfold Lib.ctz
  rw [if_neg h0]
  obtain ⟨m, hm, hlt⟩ := Lib.ctzFrom_spec 64 (pk h 64) (by omega) (pk_lt h 64)
  generalize Lib.ctzFrom 64 (pk h 64) = c at *
  have hb : ∀ i, (pk h 64).testBit i = (decide (c ≤ i) && (2 * m + 1).testBit (i - c)) := by
    intro i
    rw [hm, Nat.mul_comm, Nat.testBit_mul_two_pow]
  refine ⟨hlt, ?_, fun j hj => ?_⟩
  · have h1 := hb c
    rw [testBit_pk] at h1
    simpa [hlt, Nat.testBit_zero] using h1
  · have h1 := hb j
    rw [testBit_pk] at h1
    have h2 : ¬ c ≤ j := by omega
    have h3 : j < 64 := by omega
    simpa [h2, h3] using h1
theorem pk_zero (h : Nat → Bool) (n : Nat) (h0 : pk h n = 0) : ∀ j, j < n → h j = false := by
  intro j hj
  have := testBit_pk h n j
  rw [h0, Nat.zero_testBit] at this
  simpa [hj] using this.symm
/-- All bits turned; the low ones struck; those behind the end struck. -/
theorem xor_pk (h : Nat → Bool) : bits .xor .u64 IntKind.u64.max (pk h 64 : Int) = (pk (fun j => h j == false) 64 : Int) := by
  have h1 : (BitVec.ofInt 64 (pk h 64 : Int)).toNat = pk h 64 := by
    rw [BitVec.ofInt_natCast, BitVec.toNat_ofNat]; exact Nat.mod_eq_of_lt (pk_lt h 64)
  have h2 : (BitVec.ofInt 64 IntKind.u64.max).toNat = 18446744073709551615 := by decide
  show IntKind.u64.wrap ((BitVec.ofInt 64 IntKind.u64.max ^^^ BitVec.ofInt 64 (pk h 64 : Int)).toNat : Int) = _
  have e : (18446744073709551615 ^^^ pk h 64 : Nat) = pk (fun j => h j == false) 64 := by
    apply Nat.eq_of_testBit_eq
    intro i
    rw [Nat.testBit_xor, testBit_ones, testBit_pk, testBit_pk]
    by_cases hi : i < 64 <;> simp [hi]
  rw [BitVec.toNat_xor, h1, h2, e, IntKind.wrap_u64]
  have := pk_lt (fun j => h j == false) 64
  omega
theorem low_pk (h : Nat → Bool) (r : Nat) : IntKind.u64.wrap ((pk h 64 : Int) / 2 ^ r * 2 ^ r) = (pk (fun j => h j && decide (r ≤ j)) 64 : Int) := by
  have e : pk h 64 / 2 ^ r * 2 ^ r = pk (fun j => h j && decide (r ≤ j)) 64 := by
    apply Nat.eq_of_testBit_eq
    intro i
    rw [Nat.testBit_mul_two_pow, ← Nat.shiftRight_eq_div_pow, Nat.testBit_shiftRight, testBit_pk, testBit_pk]
    by_cases hr : r ≤ i
    · have e2 : r + (i - r) = i := by omega
      rw [e2]
      simp [hr]
    · simp [hr]
  have e2 : ((pk h 64 : Int) / 2 ^ r * 2 ^ r) = ((pk h 64 / 2 ^ r * 2 ^ r : Nat) : Int) := by simp
  rw [e2, e, IntKind.wrap_u64]
  have := pk_lt (fun j => h j && decide (r ≤ j)) 64
  omega
theorem msk_pk (h : Nat → Bool) (n k : Nat) (h1 : 64 * k < n) (h2 : n ≤ 64 * k + 64) : bits .and .u64 (pk h 64 : Int) (msk n : Int) = (pk (fun j => h j && decide (64 * k + j < n)) 64 : Int) := by
  rw [bits_and_u64_nat _ _ (pk_lt h 64) (msk_lt n)]
  congr 1
  apply Nat.eq_of_testBit_eq
  intro i
  rw [Nat.testBit_and, testBit_msk, testBit_pk, testBit_pk, Bool.and_assoc]
  by_cases hi : i < 64
  · have e : (i + (64 - n % 64) % 64 < 64) = (64 * k + i < n) := by simp; omega
    simp only [e]
  · simp [hi]

/-- The first place that is so, from one on, below n; -1: there is none. -/
def nxA (f : Nat → Bool) (one : Bool) : Nat → Nat → Int
  | 0, _ => -1
  | m + 1, k => if f k = one then k else nxA f one m (k + 1)
def nx (f : Nat → Bool) (one : Bool) (n k : Nat) : Int := nxA f one (n - k) k
theorem nxA_no (f : Nat → Bool) (one : Bool) : ∀ m k, (∀ i, k ≤ i → i < k + m → f i ≠ one) → nxA f one m k = -1
  | 0, _, _ => rfl
  | m + 1, k, h => by
    unfold nxA
    rw [if_neg (h k (by omega) (by omega))]
    exact nxA_no f one m (k + 1) (fun i h1 h2 => h i (by omega) (by omega))
theorem nxA_yes (f : Nat → Bool) (one : Bool) (i : Nat) (hi : f i = one) : ∀ m k, k ≤ i → i < k + m → (∀ j, k ≤ j → j < i → f j ≠ one) → nxA f one m k = i
  | 0, _, _, _, _ => by omega
  | m + 1, k, h1, h2, h => by
    unfold nxA
    by_cases e : k = i
    · subst e; rw [if_pos hi]
    · rw [if_neg (h k (by omega) (by omega))]
      exact nxA_yes f one i hi m (k + 1) (by omega) (by omega) (fun j h1 h2 => h j (by omega) h2)
theorem nx_no {f : Nat → Bool} {one : Bool} {n k : Nat} (h : ∀ i, k ≤ i → i < n → f i ≠ one) : nx f one n k = -1 := nxA_no f one _ _ fun i h1 h2 => h i h1 (by omega)
theorem nx_yes {f : Nat → Bool} {one : Bool} {n k i : Nat} (hi : f i = one) (h1 : k ≤ i) (h2 : i < n) (h : ∀ j, k ≤ j → j < i → f j ≠ one) : nx f one n k = i := nxA_yes f one i hi _ _ h1 (by omega) h
theorem nx_spec (f : Nat → Bool) (one : Bool) (n k : Nat) : (nx f one n k = -1 ∧ ∀ i, k ≤ i → i < n → f i ≠ one) ∨ ∃ i, nx f one n k = (i : Nat) ∧ k ≤ i ∧ i < n ∧ f i = one ∧ ∀ j, k ≤ j → j < i → f j ≠ one := by
  have key : ∀ m k, (nxA f one m k = -1 ∧ ∀ i, k ≤ i → i < k + m → f i ≠ one) ∨ ∃ i, nxA f one m k = (i : Nat) ∧ k ≤ i ∧ i < k + m ∧ f i = one ∧ ∀ j, k ≤ j → j < i → f j ≠ one := by
    intro m
    induction m with
    | zero => intro k; exact .inl ⟨rfl, fun i h1 h2 => by omega⟩
    | succ m ih =>
      intro k
      unfold nxA
      by_cases e : f k = one
      · rw [if_pos e]
        exact .inr ⟨k, rfl, Nat.le_refl _, by omega, e, fun j h1 h2 => by omega⟩
      · rw [if_neg e]
        rcases ih (k + 1) with ⟨h1, h2⟩ | ⟨i, h1, h2, h3, h4, h5⟩
        · refine .inl ⟨h1, fun i g1 g2 => ?_⟩
          by_cases g : i = k
          · subst g; exact e
          · exact h2 i (by omega) (by omega)
        · refine .inr ⟨i, h1, by omega, by omega, h4, fun j g1 g2 => ?_⟩
          by_cases g : j = k
          · subst g; exact e
          · exact h5 j (by omega) g2
  unfold nx
  rcases key (n - k) k with ⟨h1, h2⟩ | ⟨i, h1, h2, h3, h4, h5⟩
  · exact .inl ⟨h1, fun i g1 g2 => h2 i g1 (by omega)⟩
  · exact .inr ⟨i, h1, h2, by omega, h4, h5⟩

set_option maxRecDepth 100000 in
set_option maxHeartbeats 400000 in
theorem bitsNextOut (b g n : Nat) (f : Nat → Bool) (from' : Int) (one : Bool) (w : World) (h : BSet w b g n f) (hout : n ≤ from'.toNat) :
    Calls Tryz.prog 52 #[.pointer (some ⟨b, 0, none⟩), .int .i64 from', .bool one] w fun e w' => e = .returned (.int .i64 (nx f one n from'.toNat)) ∧ w = w' := by
  have d0 := h.n0
  have hmax : max from' 0 = (from'.toNat : Int) := by omega
  have hx : nx f one n from'.toNat = -1 := nx_no fun i h1 h2 => by omega
  rw [hx]
  generalize from'.toNat = fr at *
  have hout2 : (n : Int) ≤ fr := by omega
  clear h hx hout
  go_enter Tryz.func52, Tryz.ntmps52
  go_wp2_with fail
  go_ret
  exact ⟨rfl, rfl⟩

set_option maxRecDepth 100000 in
set_option maxHeartbeats 4000000 in
theorem bitsNextInTrue (b g n : Nat) (f : Nat → Bool) (from' : Int) (w : World) (h : BSet w b g n f) (hT : TabW w) (hin : from'.toNat < n) :
    Calls Tryz.prog 52 #[.pointer (some ⟨b, 0, none⟩), .int .i64 from', .bool true] w fun e w' => e = .returned (.int .i64 (nx f true n from'.toNat)) ∧ w = w' := by
  have d0 := h.n0
  have hsm := h.small
  have hmax : max from' 0 = (from'.toNat : Int) := by omega
  generalize from'.toNat = fr at *
  have HIN := Lib.hid hin
  have hin1 : decide (n ≤ fr) = false := by simpa using hin
  obtain ⟨c, d3⟩ := h.s1
  obtain ⟨m, hmm⟩ : ∃ m, m = (n + 63) / 64 := ⟨_, rfl⟩
  rw [← hmm] at d3
  have HM := Lib.hid hmm
  obtain ⟨q, hq⟩ : ∃ q : Nat, q = fr / 64 := ⟨_, rfl⟩
  obtain ⟨r, hr⟩ : ∃ r : Nat, r = fr % 64 := ⟨_, rfl⟩
  have hqq : (fr : Int) / 64 = q := by omega
  have hrr : fr % 64 = r := hr.symm
  have hr64 : r < 64 := by omega
  have HQ := Lib.hid hq
  have HR := Lib.hid hr
  have H := Lib.hid h
  have hqm : q < m := by omega
  have hm9 : m ≤ 1024 := by omega
  have hm1 : (1 : Int) ≤ m := by omega
  clear hmm hq hr h hsm hin
  go_enter Tryz.func52, Tryz.ntmps52
  go_wp2_with fail
  go_loopw [7] (fun i wr => ∃ k : Nat, k ≤ m ∧ i = .int .i64 k ∧ q ≤ k ∧ Hid (∀ i, fr ≤ i → i < 64 * k → i < n → f i ≠ true) ∧ wr = w) (fun i _ => m - (intOf i).toNat)
  case atStart => exact ⟨q, by omega, rfl, Nat.le_refl _, fun i h1 h2 => by have := HQ.out; omega, rfl⟩
  case round =>
    obtain ⟨k, hk, rfl, hk2, hno, rfl⟩ := hrel
    by_cases hlt : k < m
    · obtain ⟨d1, _⟩ := H.out.word (k := k) (by rw [← HM.out]; exact hlt)
      have hmsk := bitsMask _ _ _ _ _ H.out.toBRaw
      have HMSK := Lib.hid hmsk
      have hpl := pk_lt
      have HPL := Lib.hid hpl
      clear hmsk hpl
      obtain ⟨A, hA⟩ : ∃ A : Nat → Bool, A = fun j => f (64 * k + j) == true := ⟨_, rfl⟩
      obtain ⟨W, hW⟩ : ∃ W, W = wd f k := ⟨_, rfl⟩
      rw [← hW] at d1
      obtain ⟨W1, hW1⟩ : ∃ W1, W1 = pk A 64 := ⟨_, rfl⟩
      have hs1 : W1 = W := by rw [hW, hW1, hA]; exact pk_ext (fun i _ => by simp)
      subst hs1
      clear hW
      have HW1 := Lib.hid hW1
      have HA := Lib.hid hA
      clear hW1 hA
      by_cases hkq : k = q
      · subst hkq
        by_cases hkl : k + 1 = m
        · have hkl2 : ((k : Int) == (m : Int) - 1) = true := by rw [beq_iff_eq]; omega
          have HKL := Lib.hid hkl; clear hkl
          obtain ⟨B, hB⟩ : ∃ B : Nat → Bool, B = fun j => A j && decide (r ≤ j) := ⟨_, rfl⟩
          obtain ⟨W2, hW2⟩ : ∃ W2, W2 = pk B 64 := ⟨_, rfl⟩
          have hsh : IntKind.u64.wrap ((W1 : Int) / 2 ^ r * 2 ^ r) = (W2 : Int) := by rw [HW1.out, hW2, hB]; exact low_pk A r
          have HW2 := Lib.hid hW2; have HB := Lib.hid hB; clear hW2 hB
          obtain ⟨D, hD⟩ : ∃ D : Nat → Bool, D = fun j => B j && decide (64 * k + j < n) := ⟨_, rfl⟩
          obtain ⟨W3, hW3⟩ : ∃ W3, W3 = pk D 64 := ⟨_, rfl⟩
          have hmk : bits .and .u64 (W2 : Int) (msk n : Int) = (W3 : Int) := by rw [HW2.out, hW3, hD]; exact msk_pk B n k (by have := HM.out; have := HKL.out; omega) (by have := HM.out; have := HKL.out; omega)
          have hDs : ∀ j, j < 64 → D j = ((f (64 * k + j) == true) && decide (fr ≤ 64 * k + j) && decide (64 * k + j < n)) := by
            intro j hj
            have h1 := HQ.out; have h2 := HR.out; have h3 := HM.out; have h4 := HKL.out
            rw [hD, HB.out, HA.out]
            have e1 : (fr ≤ 64 * k + j) = (r ≤ j) := by simp; omega
            simp only [e1]; try simp
          have HW3 := Lib.hid hW3; have HDS := Lib.hid hDs; clear hW3 hDs hD
          by_cases h0 : W3 = 0
          · have hnew : ∀ i, fr ≤ i → i < 64 * (k + 1) → i < n → f i ≠ true := by
              intro i h1 h2 h3
              by_cases h4 : i < 64 * k
              · exact hno.out i h1 h4 h3
              · have h5 := pk_zero D 64 (by rw [← HW3.out, h0]) (i - 64 * k) (by omega)
                rw [HDS.out _ (by omega), show 64 * k + (i - 64 * k) = i by omega] at h5
                simpa [h1, h3] using h5
            have HNEW := Lib.hid hnew
            subst h0
            clear hnew
            go_wp2_with fail
            refine HMSK.out.mono ?_; rintro e w' ⟨rfl, rfl⟩
            go_wp2_with fail
            go_roundw
            case rel => exact ⟨k + 1, by omega, by go_num, by omega, HNEW, by first | trivial | rfl⟩
            case measure => simp [intOf]; omega
          · obtain ⟨t1, t2, t3⟩ := ctz_pk D (by rw [← HW3.out]; exact h0)
            rw [← HW3.out] at t1 t2 t3
            rw [HDS.out _ t1] at t2
            simp only [Bool.and_eq_true, beq_iff_eq, decide_eq_true_eq] at t2
            obtain ⟨⟨t4, t5⟩, t6⟩ := t2
            have htz := tzAny W3 (by rw [HW3.out]; exact HPL.out D 64) h0 wr hT
            generalize hC : Lib.ctz 64 W3 = C at *
            have hx : nx f true n fr = (64 * k + C : Nat) := nx_yes t4 t5 t6 (fun j g1 g2 => by
              by_cases g4 : j < 64 * k
              · exact hno.out j g1 g4 (by omega)
              · have g5 := t3 (j - 64 * k) (by omega)
                rw [HDS.out _ (by omega), show 64 * k + (j - 64 * k) = j by omega] at g5
                have g6 : j < n := by omega
                simpa [g1, g6] using g5)
            have HX := Lib.hid hx
            have HTZ := Lib.hid htz
            have hne : ((W3 : Int) == 0) = false := by rw [beq_eq_false_iff_ne]; omega
            have hne2 : ((W3 : Int) != 0) = true := by rw [bne_iff_ne]; omega
            clear htz t3 t4 t5 t6 hx hC
            go_wp2_with fail
            refine HMSK.out.mono ?_; rintro e w' ⟨rfl, rfl⟩
            go_wp2_with fail
            refine HTZ.out.mono ?_; rintro e w' ⟨rfl, rfl⟩
            go_wp2_with fail
            go_ret
            exact ⟨by rw [HX.out]; exact congrArg (fun v => Ending.returned (Value.int .i64 v)) (show (k : Int) * 64 + (C : Int) = ((64 * k + C : Nat) : Int) by omega), rfl⟩
        · have hkl2 : ((k : Int) == (m : Int) - 1) = false := by rw [beq_eq_false_iff_ne]; omega
          have HKL := Lib.hid hkl; clear hkl
          obtain ⟨B, hB⟩ : ∃ B : Nat → Bool, B = fun j => A j && decide (r ≤ j) := ⟨_, rfl⟩
          obtain ⟨W2, hW2⟩ : ∃ W2, W2 = pk B 64 := ⟨_, rfl⟩
          have hsh : IntKind.u64.wrap ((W1 : Int) / 2 ^ r * 2 ^ r) = (W2 : Int) := by rw [HW1.out, hW2, hB]; exact low_pk A r
          have HW2 := Lib.hid hW2; have HB := Lib.hid hB; clear hW2 hB
          obtain ⟨D, hD⟩ : ∃ D : Nat → Bool, D = B := ⟨_, rfl⟩
          obtain ⟨W3, hW3⟩ : ∃ W3, W3 = pk D 64 := ⟨_, rfl⟩
          have h23 : W3 = W2 := by rw [hW3, hD, HW2.out]
          have hDs : ∀ j, j < 64 → D j = ((f (64 * k + j) == true) && decide (fr ≤ 64 * k + j) && decide (64 * k + j < n)) := by
            intro j hj
            have h1 := HQ.out; have h2 := HR.out; have h3 := HM.out; have h4 := HKL.out
            rw [hD, HB.out, HA.out]
            have e1 : (fr ≤ 64 * k + j) = (r ≤ j) := by simp; omega
            have e2 : (64 * k + j < n) = True := by simp; omega
            simp only [e1, e2]; try simp
          have HW3 := Lib.hid hW3; have HDS := Lib.hid hDs; clear hW3 hDs hD
          by_cases h0 : W3 = 0
          · have hnew : ∀ i, fr ≤ i → i < 64 * (k + 1) → i < n → f i ≠ true := by
              intro i h1 h2 h3
              by_cases h4 : i < 64 * k
              · exact hno.out i h1 h4 h3
              · have h5 := pk_zero D 64 (by rw [← HW3.out, h0]) (i - 64 * k) (by omega)
                rw [HDS.out _ (by omega), show 64 * k + (i - 64 * k) = i by omega] at h5
                simpa [h1, h3] using h5
            have HNEW := Lib.hid hnew
            rw [h0] at h23
            subst h0
            have h23' : W2 = 0 := h23.symm; subst h23'
            clear hnew
            go_wp2_with fail
            go_roundw
            case rel => exact ⟨k + 1, by omega, by go_num, by omega, HNEW, by first | trivial | rfl⟩
            case measure => simp [intOf]; omega
          · obtain ⟨t1, t2, t3⟩ := ctz_pk D (by rw [← HW3.out]; exact h0)
            rw [← HW3.out] at t1 t2 t3
            rw [HDS.out _ t1] at t2
            simp only [Bool.and_eq_true, beq_iff_eq, decide_eq_true_eq] at t2
            obtain ⟨⟨t4, t5⟩, t6⟩ := t2
            have htz := tzAny W3 (by rw [HW3.out]; exact HPL.out D 64) h0 wr hT
            generalize hC : Lib.ctz 64 W3 = C at *
            have hx : nx f true n fr = (64 * k + C : Nat) := nx_yes t4 t5 t6 (fun j g1 g2 => by
              by_cases g4 : j < 64 * k
              · exact hno.out j g1 g4 (by omega)
              · have g5 := t3 (j - 64 * k) (by omega)
                rw [HDS.out _ (by omega), show 64 * k + (j - 64 * k) = j by omega] at g5
                have g6 : j < n := by omega
                simpa [g1, g6] using g5)
            have HX := Lib.hid hx
            have HTZ := Lib.hid htz
            have hne : ((W3 : Int) == 0) = false := by rw [beq_eq_false_iff_ne]; omega
            have hne2 : ((W3 : Int) != 0) = true := by rw [bne_iff_ne]; omega
            clear htz t3 t4 t5 t6 hx hC
            subst h23
            go_wp2_with fail
            refine HTZ.out.mono ?_; rintro e w' ⟨rfl, rfl⟩
            go_wp2_with fail
            go_ret
            exact ⟨by rw [HX.out]; exact congrArg (fun v => Ending.returned (Value.int .i64 v)) (show (k : Int) * 64 + (C : Int) = ((64 * k + C : Nat) : Int) by omega), rfl⟩
      · have hkq2 : (k : Int) ≠ q := by omega
        have hkq3 : ((k : Int) == q) = false := by rw [beq_eq_false_iff_ne]; exact hkq2
        by_cases hkl : k + 1 = m
        · have hkl2 : ((k : Int) == (m : Int) - 1) = true := by rw [beq_iff_eq]; omega
          have HKL := Lib.hid hkl; clear hkl
          obtain ⟨B, hB⟩ : ∃ B : Nat → Bool, B = A := ⟨_, rfl⟩
          obtain ⟨W2, hW2⟩ : ∃ W2, W2 = pk B 64 := ⟨_, rfl⟩
          have h12 : W2 = W1 := by rw [hW2, hB, HW1.out]
          have HW2 := Lib.hid hW2; have HB := Lib.hid hB; clear hW2 hB
          obtain ⟨D, hD⟩ : ∃ D : Nat → Bool, D = fun j => B j && decide (64 * k + j < n) := ⟨_, rfl⟩
          obtain ⟨W3, hW3⟩ : ∃ W3, W3 = pk D 64 := ⟨_, rfl⟩
          have hmk : bits .and .u64 (W2 : Int) (msk n : Int) = (W3 : Int) := by rw [HW2.out, hW3, hD]; exact msk_pk B n k (by have := HM.out; have := HKL.out; omega) (by have := HM.out; have := HKL.out; omega)
          have hDs : ∀ j, j < 64 → D j = ((f (64 * k + j) == true) && decide (fr ≤ 64 * k + j) && decide (64 * k + j < n)) := by
            intro j hj
            have h1 := HQ.out; have h2 := HR.out; have h3 := HM.out; have h4 := HKL.out
            rw [hD, HB.out, HA.out]
            have e1 : (fr ≤ 64 * k + j) = True := by simp; omega
            simp only [e1]; try simp
          have HW3 := Lib.hid hW3; have HDS := Lib.hid hDs; clear hW3 hDs hD
          by_cases h0 : W3 = 0
          · have hnew : ∀ i, fr ≤ i → i < 64 * (k + 1) → i < n → f i ≠ true := by
              intro i h1 h2 h3
              by_cases h4 : i < 64 * k
              · exact hno.out i h1 h4 h3
              · have h5 := pk_zero D 64 (by rw [← HW3.out, h0]) (i - 64 * k) (by omega)
                rw [HDS.out _ (by omega), show 64 * k + (i - 64 * k) = i by omega] at h5
                simpa [h1, h3] using h5
            have HNEW := Lib.hid hnew
            subst h0
            subst h12
            clear hnew
            go_wp2_with fail
            refine HMSK.out.mono ?_; rintro e w' ⟨rfl, rfl⟩
            go_wp2_with fail
            go_roundw
            case rel => exact ⟨k + 1, by omega, by go_num, by omega, HNEW, by first | trivial | rfl⟩
            case measure => simp [intOf]; omega
          · obtain ⟨t1, t2, t3⟩ := ctz_pk D (by rw [← HW3.out]; exact h0)
            rw [← HW3.out] at t1 t2 t3
            rw [HDS.out _ t1] at t2
            simp only [Bool.and_eq_true, beq_iff_eq, decide_eq_true_eq] at t2
            obtain ⟨⟨t4, t5⟩, t6⟩ := t2
            have htz := tzAny W3 (by rw [HW3.out]; exact HPL.out D 64) h0 wr hT
            generalize hC : Lib.ctz 64 W3 = C at *
            have hx : nx f true n fr = (64 * k + C : Nat) := nx_yes t4 t5 t6 (fun j g1 g2 => by
              by_cases g4 : j < 64 * k
              · exact hno.out j g1 g4 (by omega)
              · have g5 := t3 (j - 64 * k) (by omega)
                rw [HDS.out _ (by omega), show 64 * k + (j - 64 * k) = j by omega] at g5
                have g6 : j < n := by omega
                simpa [g1, g6] using g5)
            have HX := Lib.hid hx
            have HTZ := Lib.hid htz
            have hne : ((W3 : Int) == 0) = false := by rw [beq_eq_false_iff_ne]; omega
            have hne2 : ((W3 : Int) != 0) = true := by rw [bne_iff_ne]; omega
            clear htz t3 t4 t5 t6 hx hC
            subst h12
            go_wp2_with fail
            refine HMSK.out.mono ?_; rintro e w' ⟨rfl, rfl⟩
            go_wp2_with fail
            refine HTZ.out.mono ?_; rintro e w' ⟨rfl, rfl⟩
            go_wp2_with fail
            go_ret
            exact ⟨by rw [HX.out]; exact congrArg (fun v => Ending.returned (Value.int .i64 v)) (show (k : Int) * 64 + (C : Int) = ((64 * k + C : Nat) : Int) by omega), rfl⟩
        · have hkl2 : ((k : Int) == (m : Int) - 1) = false := by rw [beq_eq_false_iff_ne]; omega
          have HKL := Lib.hid hkl; clear hkl
          obtain ⟨B, hB⟩ : ∃ B : Nat → Bool, B = A := ⟨_, rfl⟩
          obtain ⟨W2, hW2⟩ : ∃ W2, W2 = pk B 64 := ⟨_, rfl⟩
          have h12 : W2 = W1 := by rw [hW2, hB, HW1.out]
          have HW2 := Lib.hid hW2; have HB := Lib.hid hB; clear hW2 hB
          obtain ⟨D, hD⟩ : ∃ D : Nat → Bool, D = B := ⟨_, rfl⟩
          obtain ⟨W3, hW3⟩ : ∃ W3, W3 = pk D 64 := ⟨_, rfl⟩
          have h23 : W3 = W2 := by rw [hW3, hD, HW2.out]
          have hDs : ∀ j, j < 64 → D j = ((f (64 * k + j) == true) && decide (fr ≤ 64 * k + j) && decide (64 * k + j < n)) := by
            intro j hj
            have h1 := HQ.out; have h2 := HR.out; have h3 := HM.out; have h4 := HKL.out
            rw [hD, HB.out, HA.out]
            have e1 : (fr ≤ 64 * k + j) = True := by simp; omega
            have e2 : (64 * k + j < n) = True := by simp; omega
            simp only [e1, e2]; try simp
          have HW3 := Lib.hid hW3; have HDS := Lib.hid hDs; clear hW3 hDs hD
          by_cases h0 : W3 = 0
          · have hnew : ∀ i, fr ≤ i → i < 64 * (k + 1) → i < n → f i ≠ true := by
              intro i h1 h2 h3
              by_cases h4 : i < 64 * k
              · exact hno.out i h1 h4 h3
              · have h5 := pk_zero D 64 (by rw [← HW3.out, h0]) (i - 64 * k) (by omega)
                rw [HDS.out _ (by omega), show 64 * k + (i - 64 * k) = i by omega] at h5
                simpa [h1, h3] using h5
            have HNEW := Lib.hid hnew
            rw [h0] at h23
            subst h0
            have h23' : W2 = 0 := h23.symm; subst h23'
            subst h12
            clear hnew
            go_wp2_with fail
            go_roundw
            case rel => exact ⟨k + 1, by omega, by go_num, by omega, HNEW, by first | trivial | rfl⟩
            case measure => simp [intOf]; omega
          · obtain ⟨t1, t2, t3⟩ := ctz_pk D (by rw [← HW3.out]; exact h0)
            rw [← HW3.out] at t1 t2 t3
            rw [HDS.out _ t1] at t2
            simp only [Bool.and_eq_true, beq_iff_eq, decide_eq_true_eq] at t2
            obtain ⟨⟨t4, t5⟩, t6⟩ := t2
            have htz := tzAny W3 (by rw [HW3.out]; exact HPL.out D 64) h0 wr hT
            generalize hC : Lib.ctz 64 W3 = C at *
            have hx : nx f true n fr = (64 * k + C : Nat) := nx_yes t4 t5 t6 (fun j g1 g2 => by
              by_cases g4 : j < 64 * k
              · exact hno.out j g1 g4 (by omega)
              · have g5 := t3 (j - 64 * k) (by omega)
                rw [HDS.out _ (by omega), show 64 * k + (j - 64 * k) = j by omega] at g5
                have g6 : j < n := by omega
                simpa [g1, g6] using g5)
            have HX := Lib.hid hx
            have HTZ := Lib.hid htz
            have hne : ((W3 : Int) == 0) = false := by rw [beq_eq_false_iff_ne]; omega
            have hne2 : ((W3 : Int) != 0) = true := by rw [bne_iff_ne]; omega
            clear htz t3 t4 t5 t6 hx hC
            subst h23
            subst h12
            go_wp2_with fail
            refine HTZ.out.mono ?_; rintro e w' ⟨rfl, rfl⟩
            go_wp2_with fail
            go_ret
            exact ⟨by rw [HX.out]; exact congrArg (fun v => Ending.returned (Value.int .i64 v)) (show (k : Int) * 64 + (C : Int) = ((64 * k + C : Nat) : Int) by omega), rfl⟩
    · have hkm : k = m := by omega
      have hx : nx f true n fr = -1 := nx_no fun i h1 h2 => hno.out i h1 (by have := HM.out; omega) h2
      have HX := Lib.hid hx
      clear hx
      subst hkm
      go_wp2_with fail
      go_ret
      exact ⟨by rw [HX.out]; rfl, rfl⟩

set_option maxRecDepth 100000 in
set_option maxHeartbeats 4000000 in
theorem bitsNextInFalse (b g n : Nat) (f : Nat → Bool) (from' : Int) (w : World) (h : BSet w b g n f) (hT : TabW w) (hin : from'.toNat < n) :
    Calls Tryz.prog 52 #[.pointer (some ⟨b, 0, none⟩), .int .i64 from', .bool false] w fun e w' => e = .returned (.int .i64 (nx f false n from'.toNat)) ∧ w = w' := by
  have d0 := h.n0
  have hsm := h.small
  have hmax : max from' 0 = (from'.toNat : Int) := by omega
  generalize from'.toNat = fr at *
  have HIN := Lib.hid hin
  have hin1 : decide (n ≤ fr) = false := by simpa using hin
  obtain ⟨c, d3⟩ := h.s1
  obtain ⟨m, hmm⟩ : ∃ m, m = (n + 63) / 64 := ⟨_, rfl⟩
  rw [← hmm] at d3
  have HM := Lib.hid hmm
  obtain ⟨q, hq⟩ : ∃ q : Nat, q = fr / 64 := ⟨_, rfl⟩
  obtain ⟨r, hr⟩ : ∃ r : Nat, r = fr % 64 := ⟨_, rfl⟩
  have hqq : (fr : Int) / 64 = q := by omega
  have hrr : fr % 64 = r := hr.symm
  have hr64 : r < 64 := by omega
  have HQ := Lib.hid hq
  have HR := Lib.hid hr
  have H := Lib.hid h
  have hqm : q < m := by omega
  have hm9 : m ≤ 1024 := by omega
  have hm1 : (1 : Int) ≤ m := by omega
  clear hmm hq hr h hsm hin
  go_enter Tryz.func52, Tryz.ntmps52
  go_wp2_with fail
  go_loopw [7] (fun i wr => ∃ k : Nat, k ≤ m ∧ i = .int .i64 k ∧ q ≤ k ∧ Hid (∀ i, fr ≤ i → i < 64 * k → i < n → f i ≠ false) ∧ wr = w) (fun i _ => m - (intOf i).toNat)
  case atStart => exact ⟨q, by omega, rfl, Nat.le_refl _, fun i h1 h2 => by have := HQ.out; omega, rfl⟩
  case round =>
    obtain ⟨k, hk, rfl, hk2, hno, rfl⟩ := hrel
    by_cases hlt : k < m
    · obtain ⟨d1, _⟩ := H.out.word (k := k) (by rw [← HM.out]; exact hlt)
      have hmsk := bitsMask _ _ _ _ _ H.out.toBRaw
      have HMSK := Lib.hid hmsk
      have hpl := pk_lt
      have HPL := Lib.hid hpl
      clear hmsk hpl
      obtain ⟨A, hA⟩ : ∃ A : Nat → Bool, A = fun j => f (64 * k + j) == false := ⟨_, rfl⟩
      obtain ⟨W, hW⟩ : ∃ W, W = wd f k := ⟨_, rfl⟩
      rw [← hW] at d1
      obtain ⟨W1, hW1⟩ : ∃ W1, W1 = pk A 64 := ⟨_, rfl⟩
      have hs1 : bits .xor .u64 IntKind.u64.max (W : Int) = (W1 : Int) := by rw [hW, hW1, hA]; exact xor_pk _
      have hs2 : bits .xor .u64 (if IntKind.u64.signed = true then -1 else IntKind.u64.max) (W : Int) = (W1 : Int) := hs1
      clear hW
      have HW1 := Lib.hid hW1
      have HA := Lib.hid hA
      clear hW1 hA
      by_cases hkq : k = q
      · subst hkq
        by_cases hkl : k + 1 = m
        · have hkl2 : ((k : Int) == (m : Int) - 1) = true := by rw [beq_iff_eq]; omega
          have HKL := Lib.hid hkl; clear hkl
          obtain ⟨B, hB⟩ : ∃ B : Nat → Bool, B = fun j => A j && decide (r ≤ j) := ⟨_, rfl⟩
          obtain ⟨W2, hW2⟩ : ∃ W2, W2 = pk B 64 := ⟨_, rfl⟩
          have hsh : IntKind.u64.wrap ((W1 : Int) / 2 ^ r * 2 ^ r) = (W2 : Int) := by rw [HW1.out, hW2, hB]; exact low_pk A r
          have HW2 := Lib.hid hW2; have HB := Lib.hid hB; clear hW2 hB
          obtain ⟨D, hD⟩ : ∃ D : Nat → Bool, D = fun j => B j && decide (64 * k + j < n) := ⟨_, rfl⟩
          obtain ⟨W3, hW3⟩ : ∃ W3, W3 = pk D 64 := ⟨_, rfl⟩
          have hmk : bits .and .u64 (W2 : Int) (msk n : Int) = (W3 : Int) := by rw [HW2.out, hW3, hD]; exact msk_pk B n k (by have := HM.out; have := HKL.out; omega) (by have := HM.out; have := HKL.out; omega)
          have hDs : ∀ j, j < 64 → D j = ((f (64 * k + j) == false) && decide (fr ≤ 64 * k + j) && decide (64 * k + j < n)) := by
            intro j hj
            have h1 := HQ.out; have h2 := HR.out; have h3 := HM.out; have h4 := HKL.out
            rw [hD, HB.out, HA.out]
            have e1 : (fr ≤ 64 * k + j) = (r ≤ j) := by simp; omega
            simp only [e1]; try simp
          have HW3 := Lib.hid hW3; have HDS := Lib.hid hDs; clear hW3 hDs hD
          by_cases h0 : W3 = 0
          · have hnew : ∀ i, fr ≤ i → i < 64 * (k + 1) → i < n → f i ≠ false := by
              intro i h1 h2 h3
              by_cases h4 : i < 64 * k
              · exact hno.out i h1 h4 h3
              · have h5 := pk_zero D 64 (by rw [← HW3.out, h0]) (i - 64 * k) (by omega)
                rw [HDS.out _ (by omega), show 64 * k + (i - 64 * k) = i by omega] at h5
                simpa [h1, h3] using h5
            have HNEW := Lib.hid hnew
            subst h0
            clear hnew
            go_wp2_with fail
            refine HMSK.out.mono ?_; rintro e w' ⟨rfl, rfl⟩
            go_wp2_with fail
            go_roundw
            case rel => exact ⟨k + 1, by omega, by go_num, by omega, HNEW, by first | trivial | rfl⟩
            case measure => simp [intOf]; omega
          · obtain ⟨t1, t2, t3⟩ := ctz_pk D (by rw [← HW3.out]; exact h0)
            rw [← HW3.out] at t1 t2 t3
            rw [HDS.out _ t1] at t2
            simp only [Bool.and_eq_true, beq_iff_eq, decide_eq_true_eq] at t2
            obtain ⟨⟨t4, t5⟩, t6⟩ := t2
            have htz := tzAny W3 (by rw [HW3.out]; exact HPL.out D 64) h0 wr hT
            generalize hC : Lib.ctz 64 W3 = C at *
            have hx : nx f false n fr = (64 * k + C : Nat) := nx_yes t4 t5 t6 (fun j g1 g2 => by
              by_cases g4 : j < 64 * k
              · exact hno.out j g1 g4 (by omega)
              · have g5 := t3 (j - 64 * k) (by omega)
                rw [HDS.out _ (by omega), show 64 * k + (j - 64 * k) = j by omega] at g5
                have g6 : j < n := by omega
                simpa [g1, g6] using g5)
            have HX := Lib.hid hx
            have HTZ := Lib.hid htz
            have hne : ((W3 : Int) == 0) = false := by rw [beq_eq_false_iff_ne]; omega
            have hne2 : ((W3 : Int) != 0) = true := by rw [bne_iff_ne]; omega
            clear htz t3 t4 t5 t6 hx hC
            go_wp2_with fail
            refine HMSK.out.mono ?_; rintro e w' ⟨rfl, rfl⟩
            go_wp2_with fail
            refine HTZ.out.mono ?_; rintro e w' ⟨rfl, rfl⟩
            go_wp2_with fail
            go_ret
            exact ⟨by rw [HX.out]; exact congrArg (fun v => Ending.returned (Value.int .i64 v)) (show (k : Int) * 64 + (C : Int) = ((64 * k + C : Nat) : Int) by omega), rfl⟩
        · have hkl2 : ((k : Int) == (m : Int) - 1) = false := by rw [beq_eq_false_iff_ne]; omega
          have HKL := Lib.hid hkl; clear hkl
          obtain ⟨B, hB⟩ : ∃ B : Nat → Bool, B = fun j => A j && decide (r ≤ j) := ⟨_, rfl⟩
          obtain ⟨W2, hW2⟩ : ∃ W2, W2 = pk B 64 := ⟨_, rfl⟩
          have hsh : IntKind.u64.wrap ((W1 : Int) / 2 ^ r * 2 ^ r) = (W2 : Int) := by rw [HW1.out, hW2, hB]; exact low_pk A r
          have HW2 := Lib.hid hW2; have HB := Lib.hid hB; clear hW2 hB
          obtain ⟨D, hD⟩ : ∃ D : Nat → Bool, D = B := ⟨_, rfl⟩
          obtain ⟨W3, hW3⟩ : ∃ W3, W3 = pk D 64 := ⟨_, rfl⟩
          have h23 : W3 = W2 := by rw [hW3, hD, HW2.out]
          have hDs : ∀ j, j < 64 → D j = ((f (64 * k + j) == false) && decide (fr ≤ 64 * k + j) && decide (64 * k + j < n)) := by
            intro j hj
            have h1 := HQ.out; have h2 := HR.out; have h3 := HM.out; have h4 := HKL.out
            rw [hD, HB.out, HA.out]
            have e1 : (fr ≤ 64 * k + j) = (r ≤ j) := by simp; omega
            have e2 : (64 * k + j < n) = True := by simp; omega
            simp only [e1, e2]; try simp
          have HW3 := Lib.hid hW3; have HDS := Lib.hid hDs; clear hW3 hDs hD
          by_cases h0 : W3 = 0
          · have hnew : ∀ i, fr ≤ i → i < 64 * (k + 1) → i < n → f i ≠ false := by
              intro i h1 h2 h3
              by_cases h4 : i < 64 * k
              · exact hno.out i h1 h4 h3
              · have h5 := pk_zero D 64 (by rw [← HW3.out, h0]) (i - 64 * k) (by omega)
                rw [HDS.out _ (by omega), show 64 * k + (i - 64 * k) = i by omega] at h5
                simpa [h1, h3] using h5
            have HNEW := Lib.hid hnew
            rw [h0] at h23
            subst h0
            have h23' : W2 = 0 := h23.symm; subst h23'
            clear hnew
            go_wp2_with fail
            go_roundw
            case rel => exact ⟨k + 1, by omega, by go_num, by omega, HNEW, by first | trivial | rfl⟩
            case measure => simp [intOf]; omega
          · obtain ⟨t1, t2, t3⟩ := ctz_pk D (by rw [← HW3.out]; exact h0)
            rw [← HW3.out] at t1 t2 t3
            rw [HDS.out _ t1] at t2
            simp only [Bool.and_eq_true, beq_iff_eq, decide_eq_true_eq] at t2
            obtain ⟨⟨t4, t5⟩, t6⟩ := t2
            have htz := tzAny W3 (by rw [HW3.out]; exact HPL.out D 64) h0 wr hT
            generalize hC : Lib.ctz 64 W3 = C at *
            have hx : nx f false n fr = (64 * k + C : Nat) := nx_yes t4 t5 t6 (fun j g1 g2 => by
              by_cases g4 : j < 64 * k
              · exact hno.out j g1 g4 (by omega)
              · have g5 := t3 (j - 64 * k) (by omega)
                rw [HDS.out _ (by omega), show 64 * k + (j - 64 * k) = j by omega] at g5
                have g6 : j < n := by omega
                simpa [g1, g6] using g5)
            have HX := Lib.hid hx
            have HTZ := Lib.hid htz
            have hne : ((W3 : Int) == 0) = false := by rw [beq_eq_false_iff_ne]; omega
            have hne2 : ((W3 : Int) != 0) = true := by rw [bne_iff_ne]; omega
            clear htz t3 t4 t5 t6 hx hC
            subst h23
            go_wp2_with fail
            refine HTZ.out.mono ?_; rintro e w' ⟨rfl, rfl⟩
            go_wp2_with fail
            go_ret
            exact ⟨by rw [HX.out]; exact congrArg (fun v => Ending.returned (Value.int .i64 v)) (show (k : Int) * 64 + (C : Int) = ((64 * k + C : Nat) : Int) by omega), rfl⟩
      · have hkq2 : (k : Int) ≠ q := by omega
        have hkq3 : ((k : Int) == q) = false := by rw [beq_eq_false_iff_ne]; exact hkq2
        by_cases hkl : k + 1 = m
        · have hkl2 : ((k : Int) == (m : Int) - 1) = true := by rw [beq_iff_eq]; omega
          have HKL := Lib.hid hkl; clear hkl
          obtain ⟨B, hB⟩ : ∃ B : Nat → Bool, B = A := ⟨_, rfl⟩
          obtain ⟨W2, hW2⟩ : ∃ W2, W2 = pk B 64 := ⟨_, rfl⟩
          have h12 : W2 = W1 := by rw [hW2, hB, HW1.out]
          have HW2 := Lib.hid hW2; have HB := Lib.hid hB; clear hW2 hB
          obtain ⟨D, hD⟩ : ∃ D : Nat → Bool, D = fun j => B j && decide (64 * k + j < n) := ⟨_, rfl⟩
          obtain ⟨W3, hW3⟩ : ∃ W3, W3 = pk D 64 := ⟨_, rfl⟩
          have hmk : bits .and .u64 (W2 : Int) (msk n : Int) = (W3 : Int) := by rw [HW2.out, hW3, hD]; exact msk_pk B n k (by have := HM.out; have := HKL.out; omega) (by have := HM.out; have := HKL.out; omega)
          have hDs : ∀ j, j < 64 → D j = ((f (64 * k + j) == false) && decide (fr ≤ 64 * k + j) && decide (64 * k + j < n)) := by
            intro j hj
            have h1 := HQ.out; have h2 := HR.out; have h3 := HM.out; have h4 := HKL.out
            rw [hD, HB.out, HA.out]
            have e1 : (fr ≤ 64 * k + j) = True := by simp; omega
            simp only [e1]; try simp
          have HW3 := Lib.hid hW3; have HDS := Lib.hid hDs; clear hW3 hDs hD
          by_cases h0 : W3 = 0
          · have hnew : ∀ i, fr ≤ i → i < 64 * (k + 1) → i < n → f i ≠ false := by
              intro i h1 h2 h3
              by_cases h4 : i < 64 * k
              · exact hno.out i h1 h4 h3
              · have h5 := pk_zero D 64 (by rw [← HW3.out, h0]) (i - 64 * k) (by omega)
                rw [HDS.out _ (by omega), show 64 * k + (i - 64 * k) = i by omega] at h5
                simpa [h1, h3] using h5
            have HNEW := Lib.hid hnew
            subst h0
            subst h12
            clear hnew
            go_wp2_with fail
            refine HMSK.out.mono ?_; rintro e w' ⟨rfl, rfl⟩
            go_wp2_with fail
            go_roundw
            case rel => exact ⟨k + 1, by omega, by go_num, by omega, HNEW, by first | trivial | rfl⟩
            case measure => simp [intOf]; omega
          · obtain ⟨t1, t2, t3⟩ := ctz_pk D (by rw [← HW3.out]; exact h0)
            rw [← HW3.out] at t1 t2 t3
            rw [HDS.out _ t1] at t2
            simp only [Bool.and_eq_true, beq_iff_eq, decide_eq_true_eq] at t2
            obtain ⟨⟨t4, t5⟩, t6⟩ := t2
            have htz := tzAny W3 (by rw [HW3.out]; exact HPL.out D 64) h0 wr hT
            generalize hC : Lib.ctz 64 W3 = C at *
            have hx : nx f false n fr = (64 * k + C : Nat) := nx_yes t4 t5 t6 (fun j g1 g2 => by
              by_cases g4 : j < 64 * k
              · exact hno.out j g1 g4 (by omega)
              · have g5 := t3 (j - 64 * k) (by omega)
                rw [HDS.out _ (by omega), show 64 * k + (j - 64 * k) = j by omega] at g5
                have g6 : j < n := by omega
                simpa [g1, g6] using g5)
            have HX := Lib.hid hx
            have HTZ := Lib.hid htz
            have hne : ((W3 : Int) == 0) = false := by rw [beq_eq_false_iff_ne]; omega
            have hne2 : ((W3 : Int) != 0) = true := by rw [bne_iff_ne]; omega
            clear htz t3 t4 t5 t6 hx hC
            subst h12
            go_wp2_with fail
            refine HMSK.out.mono ?_; rintro e w' ⟨rfl, rfl⟩
            go_wp2_with fail
            refine HTZ.out.mono ?_; rintro e w' ⟨rfl, rfl⟩
            go_wp2_with fail
            go_ret
            exact ⟨by rw [HX.out]; exact congrArg (fun v => Ending.returned (Value.int .i64 v)) (show (k : Int) * 64 + (C : Int) = ((64 * k + C : Nat) : Int) by omega), rfl⟩
        · have hkl2 : ((k : Int) == (m : Int) - 1) = false := by rw [beq_eq_false_iff_ne]; omega
          have HKL := Lib.hid hkl; clear hkl
          obtain ⟨B, hB⟩ : ∃ B : Nat → Bool, B = A := ⟨_, rfl⟩
          obtain ⟨W2, hW2⟩ : ∃ W2, W2 = pk B 64 := ⟨_, rfl⟩
          have h12 : W2 = W1 := by rw [hW2, hB, HW1.out]
          have HW2 := Lib.hid hW2; have HB := Lib.hid hB; clear hW2 hB
          obtain ⟨D, hD⟩ : ∃ D : Nat → Bool, D = B := ⟨_, rfl⟩
          obtain ⟨W3, hW3⟩ : ∃ W3, W3 = pk D 64 := ⟨_, rfl⟩
          have h23 : W3 = W2 := by rw [hW3, hD, HW2.out]
          have hDs : ∀ j, j < 64 → D j = ((f (64 * k + j) == false) && decide (fr ≤ 64 * k + j) && decide (64 * k + j < n)) := by
            intro j hj
            have h1 := HQ.out; have h2 := HR.out; have h3 := HM.out; have h4 := HKL.out
            rw [hD, HB.out, HA.out]
            have e1 : (fr ≤ 64 * k + j) = True := by simp; omega
            have e2 : (64 * k + j < n) = True := by simp; omega
            simp only [e1, e2]; try simp
          have HW3 := Lib.hid hW3; have HDS := Lib.hid hDs; clear hW3 hDs hD
          by_cases h0 : W3 = 0
          · have hnew : ∀ i, fr ≤ i → i < 64 * (k + 1) → i < n → f i ≠ false := by
              intro i h1 h2 h3
              by_cases h4 : i < 64 * k
              · exact hno.out i h1 h4 h3
              · have h5 := pk_zero D 64 (by rw [← HW3.out, h0]) (i - 64 * k) (by omega)
                rw [HDS.out _ (by omega), show 64 * k + (i - 64 * k) = i by omega] at h5
                simpa [h1, h3] using h5
            have HNEW := Lib.hid hnew
            rw [h0] at h23
            subst h0
            have h23' : W2 = 0 := h23.symm; subst h23'
            subst h12
            clear hnew
            go_wp2_with fail
            go_roundw
            case rel => exact ⟨k + 1, by omega, by go_num, by omega, HNEW, by first | trivial | rfl⟩
            case measure => simp [intOf]; omega
          · obtain ⟨t1, t2, t3⟩ := ctz_pk D (by rw [← HW3.out]; exact h0)
            rw [← HW3.out] at t1 t2 t3
            rw [HDS.out _ t1] at t2
            simp only [Bool.and_eq_true, beq_iff_eq, decide_eq_true_eq] at t2
            obtain ⟨⟨t4, t5⟩, t6⟩ := t2
            have htz := tzAny W3 (by rw [HW3.out]; exact HPL.out D 64) h0 wr hT
            generalize hC : Lib.ctz 64 W3 = C at *
            have hx : nx f false n fr = (64 * k + C : Nat) := nx_yes t4 t5 t6 (fun j g1 g2 => by
              by_cases g4 : j < 64 * k
              · exact hno.out j g1 g4 (by omega)
              · have g5 := t3 (j - 64 * k) (by omega)
                rw [HDS.out _ (by omega), show 64 * k + (j - 64 * k) = j by omega] at g5
                have g6 : j < n := by omega
                simpa [g1, g6] using g5)
            have HX := Lib.hid hx
            have HTZ := Lib.hid htz
            have hne : ((W3 : Int) == 0) = false := by rw [beq_eq_false_iff_ne]; omega
            have hne2 : ((W3 : Int) != 0) = true := by rw [bne_iff_ne]; omega
            clear htz t3 t4 t5 t6 hx hC
            subst h23
            subst h12
            go_wp2_with fail
            refine HTZ.out.mono ?_; rintro e w' ⟨rfl, rfl⟩
            go_wp2_with fail
            go_ret
            exact ⟨by rw [HX.out]; exact congrArg (fun v => Ending.returned (Value.int .i64 v)) (show (k : Int) * 64 + (C : Int) = ((64 * k + C : Nat) : Int) by omega), rfl⟩
    · have hkm : k = m := by omega
      have hx : nx f false n fr = -1 := nx_no fun i h1 h2 => hno.out i h1 (by have := HM.out; omega) h2
      have HX := Lib.hid hx
      clear hx
      subst hkm
      go_wp2_with fail
      go_ret
      exact ⟨by rw [HX.out]; rfl, rfl⟩

theorem bitsNext (b g n : Nat) (f : Nat → Bool) (from' : Int) (one : Bool) (w : World) (h : BSet w b g n f) (hT : TabW w) :
    Calls Tryz.prog 52 #[.pointer (some ⟨b, 0, none⟩), .int .i64 from', .bool one] w fun e w' => e = .returned (.int .i64 (nx f one n from'.toNat)) ∧ w = w' := by
  by_cases hin : from'.toNat < n
  · cases one
    · exact bitsNextInFalse b g n f from' w h hT hin
    · exact bitsNextInTrue b g n f from' w h hT hin
  · exact bitsNextOut b g n f from' one w h (by omega)
end Go.Proofs.YtjmfhcliggjdgaaGreatDoor

/- Package bits: Has; no condition. -/
namespace Go.Proofs.YtjmfhcliggjdgaaGreatDoor
open Go Go.RowKit Go.IntWalk

theorem and_bit64 (h : Nat → Bool) (r : Nat) (hr : r < 64) : (bits .and .u64 ((pk h 64 : Int) / 2 ^ r) 1 == 1) = h r := by
  have e : ((pk h 64 : Int) / 2 ^ r) = ((pk h 64 / 2 ^ r : Nat) : Int) := by simp
  have hlt := pk_lt h 64
  have hle : pk h 64 / 2 ^ r ≤ pk h 64 := Nat.div_le_self _ _
  have e2 := bits_and_u64_nat (pk h 64 / 2 ^ r) 1 (by omega) (by decide)
  rw [e, show (1 : Int) = ((1 : Nat) : Int) from rfl, e2]
  have e3 : pk h 64 / 2 ^ r &&& 1 = if h r then 1 else 0 := by
    have := testBit_pk h 64 r
    rw [← Nat.shiftRight_eq_div_pow, Nat.and_one_is_mod]
    have h2 : (pk h 64).testBit r = ((pk h 64 >>> r) % 2 == 1) := by
      rw [Nat.testBit, Nat.and_comm, Nat.and_one_is_mod]
      rcases Nat.mod_two_eq_zero_or_one (pk h 64 >>> r) with h | h <;> rw [h] <;> rfl
    rw [this] at h2
    simp only [hr, decide_true, Bool.true_and] at h2
    rcases Nat.mod_two_eq_zero_or_one (pk h 64 >>> r) with h3 | h3
    · rw [h3] at h2 ⊢; rw [h2]; rfl
    · rw [h3] at h2 ⊢; rw [h2]; rfl
  rw [e3]
  cases h r <;> rfl

/-- Is a place a one? -/
def hasB (f : Nat → Bool) (i : Int) : Bool := decide (0 ≤ i) && f i.toNat

set_option maxRecDepth 100000 in
set_option maxHeartbeats 1000000 in
theorem bitsHas (b g n : Nat) (f : Nat → Bool) (i : Int) (w : World) (h : BSet w b g n f) :
    Calls Tryz.prog 16 #[.pointer (some ⟨b, 0, none⟩), .int .i64 i] w fun e w' => e = .returned (.bool (hasB f i)) ∧ w = w' := by
  have d0 := h.n0
  have hsm := h.small
  by_cases h0 : 0 ≤ i
  · obtain ⟨k, rfl⟩ : ∃ k : Nat, i = k := ⟨i.toNat, by omega⟩
    by_cases h1 : k < n
    · obtain ⟨q, hq⟩ : ∃ q : Nat, q = k / 64 := ⟨_, rfl⟩
      obtain ⟨r, hr⟩ : ∃ r : Nat, r = k % 64 := ⟨_, rfl⟩
      obtain ⟨m, hmm⟩ : ∃ m, m = (n + 63) / 64 := ⟨_, rfl⟩
      obtain ⟨c, d3⟩ := h.s1
      obtain ⟨d1, _⟩ := h.word (k := q) (by omega)
      have hb := and_bit64 (fun j => f (64 * q + j)) r (by omega)
      rw [show 64 * q + r = k by omega] at hb
      have hx : hasB f (k : Int) = f k := by simp [hasB]
      rw [hx]
      rw [← hmm] at d3
      have hqq : (k : Int) / 64 = q := by omega
      have hqm : q < m := by omega
      have htm : (k : Int).tmod 64 = r := by rw [Int.tmod_eq_emod_of_nonneg (by omega)]; omega
      have hem : (k : Int) % 64 = r := by omega
      have hwq : IntKind.i64.wrap (q : Int) = q := by rw [IntKind.wrap_i64]; omega
      have hwr : IntKind.i64.wrap (r : Int) = r := by rw [IntKind.wrap_i64]; omega
      have hr9 : r < 64 := by omega
      have hsh : ∀ Z : Int, Op.shift .shr .u64 Z .i64 (r : Int) = pure (.int .u64 (Z / 2 ^ r)) := by
        intro Z
        rw [shift_shr_u64 .i64 Z (r : Int) (by omega) (by omega)]
        simp
      change ((bits .and .u64 ((wd f q : Int) / 2 ^ r) 1 == 1) = f k) at hb
      have hb2 : decide (bits .and .u64 ((wd f q : Int) / 2 ^ r) 1 = 1) = f k := by rw [← hb]; rfl
      generalize wd f q = W at d1 hb hb2
      generalize f k = v at hb hb2
      have h1' : (k : Int) < n := by omega
      clear hq hr hmm h hx
      go_enter Tryz.func16, Tryz.ntmps16
      go_wp2_with fail
      go_ret
      exact ⟨rfl, rfl⟩
    · have hx : hasB f (k : Int) = false := by simp [hasB]; exact h.out k (by omega)
      rw [hx]
      have h1' : ¬ ((k : Int) < n) := by omega
      clear h hx
      go_enter Tryz.func16, Tryz.ntmps16
      go_wp2_with fail
      go_ret
      exact ⟨rfl, rfl⟩
  · have hx : hasB f i = false := by simp [hasB, h0]
    rw [hx]
    clear h hx
    go_enter Tryz.func16, Tryz.ntmps16
    go_wp2_with fail
    go_ret
    exact ⟨rfl, rfl⟩
end Go.Proofs.YtjmfhcliggjdgaaGreatDoor

/- The reference of package bits: Has, Fill, Put, Next, Count; no condition. -/
namespace Go.Proofs.YtjmfhcliggjdgaaGreatDoor
open Go Go.RowKit Go.IntWalk

set_option maxRecDepth 100000 in
set_option maxHeartbeats 1000000 in
theorem refHas (b g n : Nat) (f : Nat → Bool) (i : Int) (w : World) (h : RSet w b g n f) (hout : ∀ i, n ≤ i → f i = false) :
    Calls Tryz.prog 15 #[.pointer (some ⟨b, 0, none⟩), .int .i64 i] w fun e w' => e = .returned (.bool (hasB f i)) ∧ w = w' := by
  obtain ⟨c, d0⟩ := h.s0
  have hsm := h.small
  by_cases h0 : 0 ≤ i
  · obtain ⟨k, rfl⟩ : ∃ k : Nat, i = k := ⟨i.toNat, by omega⟩
    by_cases h1 : k < n
    · obtain ⟨d1, _⟩ := h.at h1
      have hx : hasB f (k : Int) = f k := by simp [hasB]
      rw [hx]
      generalize f k = v at d1
      have h1' : (k : Int) < n := by omega
      clear h hx hout
      go_enter Tryz.func15, Tryz.ntmps15
      go_wp2_with fail
      go_ret
      exact ⟨rfl, rfl⟩
    · have hx : hasB f (k : Int) = false := by simp [hasB]; exact hout k (by omega)
      rw [hx]
      have h1' : ¬ ((k : Int) < n) := by omega
      clear h hx hout
      go_enter Tryz.func15, Tryz.ntmps15
      go_wp2_with fail
      go_ret
      exact ⟨rfl, rfl⟩
  · have hx : hasB f i = false := by simp [hasB, h0]
    rw [hx]
    clear h hx hout
    go_enter Tryz.func15, Tryz.ntmps15
    go_wp2_with fail
    go_ret
    exact ⟨rfl, rfl⟩



set_option maxHeartbeats 400000 in
theorem refPutBad (b g n : Nat) (f : Nat → Bool) (i : Int) (one : Bool) (w : World) (h : RSet w b g n f) (hbad : i < 0 ∨ n ≤ i) :
    Calls Tryz.prog 43 #[.pointer (some ⟨b, 0, none⟩), .int .i64 i, .bool one] w fun e w' => e = .returned (.int .i64 1) ∧ w = w' := by
  obtain ⟨c, d0⟩ := h.s0
  clear h
  go_enter Tryz.func43, Tryz.ntmps43
  by_cases h1 : i < 0
  · go_wp2
    go_ret
    exact ⟨rfl, rfl⟩
  · have h3 : (n : Int) ≤ i := by omega
    go_wp2
    go_ret
    exact ⟨rfl, rfl⟩

set_option maxHeartbeats 400000 in
theorem refPut (b g n : Nat) (f : Nat → Bool) (i : Nat) (one : Bool) (w : World) (h : RSet w b g n f) (hi : i < n) :
    Calls Tryz.prog 43 #[.pointer (some ⟨b, 0, none⟩), .int .i64 i, .bool one] w fun e w' => e = .returned (.int .i64 0) ∧ RSet w' b g n (fil f i (i + 1) one) ∧ Mod (· = g) w w' := by
  obtain ⟨c, d0⟩ := h.s0
  have hn := h.small
  obtain ⟨d1, d2⟩ := h.at hi
  have h1 : ¬ (i : Int) < 0 := by omega
  have h3 : ¬ (n : Int) ≤ i := by omega
  have hnx : RSet (w.setCell ⟨g, i, none⟩ (.bool one)) b g n (fil f i (i + 1) one) := by
    refine h.put i _ _ ?_ (fun x hx => ?_)
    · unfold fil; rw [if_pos (by omega)]
    · unfold fil; rw [if_neg (by omega)]
  have HNX := Lib.hid hnx
  clear h hnx
  go_enter Tryz.func43, Tryz.ntmps43
  go_wp2_with fail
  go_ret
  exact ⟨rfl, HNX.out, (Mod.refl (· = g) w).setCell (p := ⟨g, i, none⟩) (.inl rfl) _⟩


end Go.Proofs.YtjmfhcliggjdgaaGreatDoor
