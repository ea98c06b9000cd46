/- slices.MinFunc over records of four ints, by an order that is a function of its own; conditions: the list is not empty. -/
import Derived.Test.YtagiodagbfahpaaMbV
import Derived.Test.YtagiodagbfahpaaMbF
import Derived.Test.YtagiodagbfahpaaRegO
namespace Go.Proofs.Ytagiodagbfahpaa
open Go Go.RowKit

abbrev recC (p : Int × Rc) : List Value := [.int .i64 p.1, .int .i64 p.2.s, .int .i64 p.2.u, .int .i64 p.2.b]
theorem recL_cons (q : Int × Rc) (t : List (Int × Rc)) : recL (q :: t) = recC q ++ recL t := by simp [recL]
theorem recL_get : ∀ (ks : List (Int × Rc)) (k j : Nat) (x : Int) (r : Rc), ks[k]? = some (x, r) → j < 4 → (recL ks)[k * 4 + j]? = (recC (x, r))[j]?
  | [], _, _, _, _, h, _ => by simp at h
  | q :: t, 0, j, x, r, h, hj => by
    simp at h
    subst h
    rw [recL_cons, List.getElem?_append_left (by simp; omega)]
    simp
  | q :: t, k + 1, j, x, r, h, hj => by
    rw [recL_cons, List.getElem?_append_right (by simp; omega)]
    have := recL_get t k j x r (by simpa using h) hj
    rw [← this]
    congr 1
    simp
    omega
/-- The four cells of a record in a slice. -/
theorem recEl {w : World} {a : Option Addr} {n : Nat} {ks : List (Int × Rc)} (h : Els w a 4 n (recL ks)) (hn : ks.length ≤ n) {i : Nat} {x : Int} {r : Rc} (hi : ks[i]? = some (x, r)) :
    ∃ X, a = some X ∧ w.cell? (X.add (i * 4)) = some (.int .i64 x) ∧ w.cell? ⟨(X.add (i * 4)).block, (X.add (i * 4)).off + 1, none⟩ = some (.int .i64 r.s) ∧ w.cell? ⟨(X.add (i * 4)).block, (X.add (i * 4)).off + 2, none⟩ = some (.int .i64 r.u) ∧ w.cell? ⟨(X.add (i * 4)).block, (X.add (i * 4)).off + 3, none⟩ = some (.int .i64 r.b) := by
  have hl := (List.getElem?_eq_some_iff.1 hi).1
  obtain ⟨X, rfl, h1, h2⟩ := h i (by omega)
  exact ⟨X, rfl, h1 _ (recL_get ks i 0 x r hi (by decide)), h2 1 _ (recL_get ks i 1 x r hi (by decide)) (by decide), h2 2 _ (recL_get ks i 2 x r hi (by decide)) (by decide), h2 3 _ (recL_get ks i 3 x r hi (by decide)) (by decide)⟩

/-- The one of a list that goes first. -/
def minF (m : Int × Rc) (l : List (Int × Rc)) : Int × Rc := l.foldl (fun m x => if cmpF x m < 0 then x else m) m
theorem minF_snoc (m : Int × Rc) (l : List (Int × Rc)) (x : Int × Rc) : minF m (l ++ [x]) = if cmpF x (minF m l) < 0 then x else minF m l := by unfold minF; rw [List.foldl_append]; rfl

set_option maxRecDepth 100000 in
set_option maxHeartbeats 2000000 in
theorem minFunc (X : Addr) (cap : Nat) (q0 : Int × Rc) (t : List (Int × Rc)) (w : World) (he : Els w (some X) 4 (t.length + 1) (recL (q0 :: t))) (hlen : t.length ≤ 1000) :
    Calls Try.prog 49 #[.slice (some X) (t.length + 1) cap, .func (.func 50) #[] #[]] w fun e w' => e = .returned (rcv (minF q0 t).1 (minF q0 t).2) ∧ Mod (fun _ => False) w w' := by
  have m1 := (Mod.refl (fun _ => False) w).alloc (.cells #[.int .i64 0, .int .i64 0, .int .i64 0, .int .i64 0] 29)
  obtain ⟨Y, hY, y0, y1, y2, y3⟩ := recEl (he.new m1) (by simp) (i := 0) (x := q0.1) (r := q0.2) (by simp)
  cases hY
  rw [show X.add (0 * 4) = X by simp [Addr.add]] at y0 y1 y2 y3
  have HE := Lib.hid he
  have HF := Lib.hid (fun (k1 k2 : Int) (r1 r2 : Rc) (w : World) => memFirst1 k1 k2 r1 r2 w)
  clear he m1
  go_enter Try.func49, Try.ntmps49
  go_wp2_with fail
  have m2 := ((Mod.refl (fun _ => False) w).alloc (.cells #[.int .i64 0, .int .i64 0, .int .i64 0, .int .i64 0] 29)).alloc (.cells #[.int .i64 q0.1, .int .i64 q0.2.s, .int .i64 q0.2.u, .int .i64 q0.2.b] 29)
  have R1 := Lib.hid ((Blk.new w #[.int .i64 0, .int .i64 0, .int .i64 0, .int .i64 0] 29).alloc (.cells #[.int .i64 q0.1, .int .i64 q0.2.s, .int .i64 q0.2.u, .int .i64 q0.2.b] 29))
  have X1 := Lib.hid (Blk.new (w.alloc (.cells #[.int .i64 0, .int .i64 0, .int .i64 0, .int .i64 0] 29)) #[.int .i64 q0.1, .int .i64 q0.2.s, .int .i64 q0.2.u, .int .i64 q0.2.b] 29)
  rw [show (w.alloc (.cells #[.int .i64 0, .int .i64 0, .int .i64 0, .int .i64 0] 29)).heap.size = w.heap.size + 1 by simp] at X1
  have M2 := Lib.hid m2
  clear y0 y1 y2 y3 m2
  obtain ⟨B, hB⟩ : ∃ B, B = w.heap.size := ⟨_, rfl⟩
  generalize (w.alloc (.cells #[.int .i64 0, .int .i64 0, .int .i64 0, .int .i64 0] 29)).alloc (.cells #[.int .i64 q0.1, .int .i64 q0.2.s, .int .i64 q0.2.u, .int .i64 q0.2.b] 29) = w2 at *
  rw [← hB] at R1 X1 ⊢
  have HB := Lib.hid hB
  clear hB
  go_loopw [6] (fun v wr => ∃ (k : Nat), v = .int .i64 ((k : Int) + 1) ∧ k ≤ t.length ∧ Hid (Blk wr B #[.int .i64 0, .int .i64 0, .int .i64 0, .int .i64 0] 29) ∧ Hid (Blk wr (B + 1) (recC (minF q0 (t.take k))).toArray 29) ∧ Hid (Mod (fun _ => False) w wr)) (fun v _ => t.length + 1 - (intOf v).toNat)
  case atStart => exact ⟨0, rfl, Nat.zero_le _, R1, X1, M2⟩
  case round =>
    obtain ⟨k, rfl, hk, hR, hX, hm⟩ := hrel
    by_cases hlt : (k : Int) + 1 < (t.length : Int) + 1
    · obtain ⟨⟨x, r⟩, hkr⟩ : ∃ q, t[k]? = some q := ⟨_, List.getElem?_eq_getElem (by omega)⟩
      obtain ⟨Y, hY, p0, p1, p2, p3⟩ := recEl (HE.out.new hm.out) (by simp) (i := k + 1) (x := x) (r := r) (by simpa using hkr)
      cases hY
      have HS := Lib.hid (minF_snoc q0 (t.take k) (x, r))
      have HT := Lib.hid (show t.take (k + 1) = t.take k ++ [(x, r)] by rw [List.take_add_one, hkr]; rfl)
      obtain ⟨mq, hmq⟩ : ∃ mq, mq = minF q0 (t.take k) := ⟨_, rfl⟩
      rw [← hmq] at hX HS
      have x0 := hX.out.cell 0; have x1 := hX.out.cell 1; have x2 := hX.out.cell 2; have x3 := hX.out.cell 3
      have HMQ := Lib.hid hmq
      obtain ⟨c, hcv⟩ : ∃ c, c = cmpF (x, r) mq := ⟨_, rfl⟩
      have HF2 := fun n => HF.out x mq.1 r mq.2 (wr.drewN n)
      rw [show cmpF (x, r) (mq.1, mq.2) = c from hcv.symm] at HF2
      have HCV := Lib.hid hcv
      have HF3 := Lib.hid HF2
      unfold rcv at HF3
      have HM := Lib.hid hm.out
      have HKR := Lib.hid hkr
      clear HF2 hcv hmq hkr hm
      have hlt2 : k < t.length := by omega
      have hkk : (0 : Int) ≤ (k : Int) + 1 := by omega
      have htn : ((k : Int) + 1).toNat = k + 1 := by omega
      go_wp2_with fail
      refine wp_region2 [(6, 2)] [] (by kernel_rfl) (by kernel_rfl) ?_
      repeat (first | (refine reg_anyT (by rfl) (fun K hK => ?_); go_simp; refine hK _ _ ?_; clear hK K) | (refine reg_read (by rfl) (fun K hK => ?_); go_simp; refine hK _ _ ?_; clear hK K))
      refine reg_eff (by rfl) (fun rn K hK => ?_); go_simp
      refine (HF3.out _).mono ?_; rintro e w' ⟨rfl, m3⟩
      refine hK _ _ ?_; clear hK K
      repeat (first | (refine reg_anyT (by rfl) (fun K hK => ?_); go_simp; refine hK _ _ ?_; clear hK K) | (refine reg_read (by rfl) (fun K hK => ?_); go_simp; refine hK _ _ ?_; clear hK K))
      refine reg_nil (fun nd => ?_)
      have m4 := m3.undrew
      have m5 := m4.drewN nd
      have R5 := Lib.hid (hR.out.mod m5 (fun h => h))
      have X5 := Lib.hid (hX.out.mod m5 (fun h => h))
      have M5 := Lib.hid (HM.out.trans m5)
      obtain ⟨Y, hY, p0, p1, p2, p3⟩ := recEl (HE.out.new M5.out) (by simp) (i := k + 1) (x := x) (r := r) (by simpa using HKR.out)
      cases hY
      have f0 := X5.out.frozen 0; have f1 := X5.out.frozen 1; have f2 := X5.out.frozen 2; have f3 := X5.out.frozen 3
      have x0 := X5.out.cell 0; have x1 := X5.out.cell 1; have x2 := X5.out.cell 2; have x3 := X5.out.cell 3
      have HBL := Lib.hid (show w.heap.size ≤ B + 1 by have := HB.out; omega)
      have HBN := Lib.hid (show B ≠ B + 1 by omega)
      clear m3 m4 m5 hX hR
      generalize w'.drewN nd = w5 at *
      by_cases hcn : c < 0
      · have HV : Hid (minF q0 (t.take (k + 1)) = (x, r)) := by
          show _ = _; rw [HT.out, HS.out, if_pos (by rw [← HCV.out]; exact hcn)]
        go_wp2_with fail
        refine ⟨⟨k + 1, by go_num, by omega, ?_, ?_, ?_⟩, by simp [intOf]; omega⟩
        · exact (((R5.out.setOther (p := ⟨B + 1, 0, none⟩) HBN.out.symm _).setOther (p := ⟨B + 1, 1, none⟩) HBN.out.symm _).setOther (p := ⟨B + 1, 2, none⟩) HBN.out.symm _).setOther (p := ⟨B + 1, 3, none⟩) HBN.out.symm _
        · show Blk _ _ _ _
          rw [HV.out]
          exact (((X5.out.set 0 _).set 1 _).set 2 _).set 3 _
        · exact (((M5.out.setCell (p := ⟨B + 1, 0, none⟩) (.inr HBL.out) _).setCell (p := ⟨B + 1, 1, none⟩) (.inr HBL.out) _).setCell (p := ⟨B + 1, 2, none⟩) (.inr HBL.out) _).setCell (p := ⟨B + 1, 3, none⟩) (.inr HBL.out) _
      · have HV : Hid (minF q0 (t.take (k + 1)) = mq) := by
          show _ = _; rw [HT.out, HS.out, if_neg (by rw [← HCV.out]; exact hcn)]
        have hcn' : decide (c < 0) = false := by simpa using hcn
        go_wp2_with fail
        refine ⟨⟨k + 1, by go_num, by omega, R5, ?_, M5⟩, by simp [intOf]; omega⟩
        show Blk _ _ _ _
        rw [HV.out]
        exact X5.out
    · have hkt : k = t.length := by omega
      have hX2 := hX.out
      rw [hkt, List.take_length] at hX2
      obtain ⟨mq, hmq⟩ : ∃ mq, mq = minF q0 t := ⟨_, rfl⟩
      rw [← hmq] at hX2
      have HMQ := Lib.hid hmq
      have x0 := hX2.cell 0; have x1 := hX2.cell 1; have x2 := hX2.cell 2; have x3 := hX2.cell 3
      have r0 := hR.out.cell 0; have r1 := hR.out.cell 1; have r2 := hR.out.cell 2; have r3 := hR.out.cell 3
      have f0 := hR.out.frozen 0; have f1 := hR.out.frozen 1; have f2 := hR.out.frozen 2; have f3 := hR.out.frozen 3
      have HM := Lib.hid hm.out
      have HBL := Lib.hid (show w.heap.size ≤ B by have := HB.out; omega)
      have d := (((hR.out.set 0 (.int .i64 mq.1)).set 1 (.int .i64 mq.2.s)).set 2 (.int .i64 mq.2.u)).set 3 (.int .i64 mq.2.b)
      have D := Lib.hid d
      clear hmq hkt hX2 hX d hm
      go_wp2_with fail
      refine bodyPost_ret (v := rcv mq.1 mq.2) (by simp [results, Try.results49, go_sem, D.out.cell, rcv]) rfl ⟨by rw [HMQ.out], ?_⟩
      exact (((HM.out.setCell (p := ⟨B, 0, none⟩) (.inr HBL.out) _).setCell (p := ⟨B, 1, none⟩) (.inr HBL.out) _).setCell (p := ⟨B, 2, none⟩) (.inr HBL.out) _).setCell (p := ⟨B, 3, none⟩) (.inr HBL.out) _
end Go.Proofs.Ytagiodagbfahpaa
