/- Package member: the view, New, within, newer, Self, Of; no condition. -/
import Derived.Test.YtagiodagbfahpaaMb0
import Derived.Test.YtagiodagbfahpaaCmp
namespace Go.Proofs.Ytagiodagbfahpaa
open Go Go.RowKit

abbrev TMb : TypeId := 29
/-- A view at block b, its map at block M: itself, how many it may know, these. -/
structure VW (w : World) (b M : Nat) (S : Int × Rc) (most : Int) (ks : List (Int × Rc)) : Prop where
  head : Blk w b #[.int .i64 S.1, .int .i64 S.2.s, .int .i64 S.2.u, .int .i64 S.2.b, .int .i64 most, .map (some M)] 66
  map : IMap Try.prog 3 w M (mp ks)
  ne : M ≠ b
theorem VW.mod {P : Nat → Prop} {w w' : World} {b M : Nat} {S : Int × Rc} {most : Int} {ks : List (Int × Rc)} (h : VW w b M S most ks) (hm : Mod P w w') (hb : ¬ P b) (hM : ¬ P M) : VW w' b M S most ks := ⟨h.head.mod hm hb, h.map.mod hm hM, h.ne⟩
theorem VW.new {w w' : World} {b M : Nat} {S : Int × Rc} {most : Int} {ks : List (Int × Rc)} (h : VW w b M S most ks) (hm : Mod (fun _ => False) w w') : VW w' b M S most ks := h.mod hm (fun h => h) (fun h => h)
theorem VW.drewN {w : World} {b M : Nat} {S : Int × Rc} {most : Int} {ks : List (Int × Rc)} (h : VW w b M S most ks) (n : Nat) : VW (w.drewN n) b M S most ks := ⟨h.head, h.map.drewN n, h.ne⟩
theorem VW.lt {w : World} {b M : Nat} {S : Int × Rc} {most : Int} {ks : List (Int × Rc)} (h : VW w b M S most ks) : b < w.heap.size ∧ M < w.heap.size := ⟨h.head.lt, h.map.lt⟩

theorem memWithin (n lo hi : Int) (w : World) :
    Calls Try.prog 26 #[.int .i64 n, .int .i64 lo, .int .i64 hi] w fun e w' => e = .returned (.bool (decide (lo ≤ n) && decide (n ≤ hi))) ∧ w = w' := by
  by_cases h1 : lo ≤ n
  · go_enter Try.func26, Try.ntmps26
    go_wp2_with fail
    go_ret
    exact ⟨by simp [h1], rfl⟩
  · have h2 : decide (lo ≤ n) = false := by simpa using h1
    go_enter Try.func26, Try.ntmps26
    go_wp2_with fail
    go_ret
    exact ⟨by simp, rfl⟩
theorem in_yes {n lo hi : Int} (h : lo ≤ n ∧ n ≤ hi) : (decide (lo ≤ n) && decide (n ≤ hi)) = true := by simp [h.1, h.2]
theorem in_no {n lo hi : Int} (h : ¬ (lo ≤ n ∧ n ≤ hi)) : (decide (lo ≤ n) && decide (n ≤ hi)) = false := by
  rw [Bool.and_eq_false_iff, decide_eq_false_iff_not, decide_eq_false_iff_not]; omega

def ViewOk (self most : Int) : Prop := 1 ≤ self ∧ self ≤ 65536 ∧ 1 ≤ most ∧ most ≤ 64
instance (a b : Int) : Decidable (ViewOk a b) := by unfold ViewOk; infer_instance
set_option maxRecDepth 100000 in
set_option maxHeartbeats 400000 in
theorem memNew (self most : Int) (w : World) (h : ViewOk self most) :
    Calls Try.prog 11 #[.int .i64 self, .int .i64 most] w fun e w' => e = .returned (.tuple #[.pointer (some ⟨w.heap.size + 1, 0, none⟩), .int .i64 0]) ∧ VW w' (w.heap.size + 1) w.heap.size (self, ⟨0, 1, 0⟩) most [] ∧ Mod (fun _ => False) w w' ∧ w'.heap.size = w.heap.size + 2 := by
  have e1 := in_yes (n := self) (lo := 1) (hi := 65536) ⟨h.1, h.2.1⟩
  have e2 := in_yes (n := most) (lo := 1) (hi := 64) ⟨h.2.2.1, h.2.2.2⟩
  have hmm := @run_makeMap Try.prog
  go_enter Try.func11, Try.ntmps11
  go_wp2_with fail
  refine (memWithin _ _ _ _).mono ?_; rw [e1]; rintro e w' ⟨rfl, rfl⟩
  go_wp2_with fail
  refine (memWithin _ _ _ _).mono ?_; rw [e2]; rintro e w' ⟨rfl, rfl⟩
  go_wp2_with fail
  go_ret2
  refine ⟨rfl, ⟨?_, (IMap.made Try.prog 3 w).alloc _, by omega⟩, ((Mod.refl _ w).alloc _).alloc _, by simp⟩
  have := Blk.new (w.alloc (.map #[] 0)) #[.int .i64 self, .int .i64 0, .int .i64 1, .int .i64 0, .int .i64 most, .map (some w.heap.size)] 66
  simpa using this
set_option maxRecDepth 100000 in
set_option maxHeartbeats 400000 in
theorem memNewBad (self most : Int) (w : World) (h : ¬ ViewOk self most) :
    Calls Try.prog 11 #[.int .i64 self, .int .i64 most] w fun e w' => e = .returned (.tuple #[.pointer none, .int .i64 1]) ∧ w = w' := by
  unfold ViewOk at h
  by_cases a1 : 1 ≤ self ∧ self ≤ 65536
  · have e1 := in_yes a1
    have e2 : (decide (1 ≤ most) && decide (most ≤ 64)) = false := in_no (by omega)
    clear h a1
    go_enter Try.func11, Try.ntmps11
    go_wp2_with fail
    refine (memWithin _ _ _ _).mono ?_; rw [e1]; rintro e w' ⟨rfl, rfl⟩
    go_wp2_with fail
    refine (memWithin _ _ _ _).mono ?_; rw [e2]; rintro e w' ⟨rfl, rfl⟩
    go_wp2_with fail
    go_ret2
    exact ⟨rfl, rfl⟩
  · have e1 := in_no a1
    clear h a1
    go_enter Try.func11, Try.ntmps11
    go_wp2_with fail
    refine (memWithin _ _ _ _).mono ?_; rw [e1]; rintro e w' ⟨rfl, rfl⟩
    go_wp2_with fail
    go_ret2
    exact ⟨rfl, rfl⟩

set_option maxRecDepth 100000 in
set_option maxHeartbeats 400000 in
theorem memOf (id : Int) (b M : Nat) (S : Int × Rc) (most : Int) (ks : List (Int × Rc)) (w : World) (hi : I64 id) (h : VW w b M S most ks) :
    Calls Try.prog 14 #[.pointer (some ⟨b, 0, none⟩), .int .i64 id] w fun e w' => e = .returned (.tuple #[.agg #[.int .i64 (idf ks id), .int .i64 (rd ks id).s, .int .i64 (rd ks id).u, .int .i64 (rd ks id).b], .bool (lkL ks id).isSome]) ∧ Mod (fun _ => False) w w' := by
  have m1 := (Mod.refl (fun _ => False) w).alloc (.cells #[.int .i64 0, .int .i64 0, .int .i64 0, .int .i64 0] TMb)
  have c3 : (w.alloc (.cells #[.int .i64 0, .int .i64 0, .int .i64 0, .int .i64 0] TMb)).cell? ⟨b, 5, none⟩ = some (.map (some M)) := (h.new m1).head.cell 5
  have hl := (h.new m1).map.lookOk Try.underlying3 Try.underlying64 (zeroKnown _) hi
  have hsome : (lkL (mp ks) id).isSome = (lkL ks id).isSome := by rw [lk_mp]; cases lkL ks id <;> rfl
  rw [at_mp, hsome] at hl
  obtain ⟨ri, hri⟩ : ∃ r, r = idf ks id := ⟨_, rfl⟩
  obtain ⟨r, hr⟩ : ∃ r, r = rd ks id := ⟨_, rfl⟩
  obtain ⟨o, ho⟩ : ∃ o, o = (lkL ks id).isSome := ⟨_, rfl⟩
  rw [← hri, ← hr, ← ho] at hl ⊢
  clear h hi hsome m1 hri hr ho
  go_enter Try.func14, Try.ntmps14
  go_wp2_with fail
  refine bodyPost_ret (v := .tuple #[.agg #[.int .i64 ri, .int .i64 r.s, .int .i64 r.u, .int .i64 r.b], .bool o]) (by simp [results, Try.results14, go_sem]) rfl ⟨rfl, ((Mod.refl _ w).alloc _).alloc _⟩

set_option maxRecDepth 100000 in
set_option maxHeartbeats 400000 in
theorem memSelf (b M : Nat) (S : Int × Rc) (most : Int) (ks : List (Int × Rc)) (w : World) (h : VW w b M S most ks) :
    Calls Try.prog 24 #[.pointer (some ⟨b, 0, none⟩)] w fun e w' => e = .returned (rcv S.1 S.2) ∧ Mod (fun _ => False) w w' := by
  have hb := h.lt.1
  have m1 := (Mod.refl (fun _ => False) w).alloc (.cells #[.int .i64 0, .int .i64 0, .int .i64 0, .int .i64 0] TMb)
  have c0 := (h.new m1).head.cell 0; have c1 := (h.new m1).head.cell 1; have c2 := (h.new m1).head.cell 2; have c3 := (h.new m1).head.cell 3
  clear h m1
  go_enter Try.func24, Try.ntmps24
  go_wp2_with fail
  refine bodyPost_ret (v := rcv S.1 S.2) (by simp [results, Try.results24, go_sem, rcv]) rfl ⟨rfl, (Mod.refl _ w).alloc _⟩

/-- Is a word newer than another one? -/
def newP (m o : Rc) : Prop := o.s < m.s ∨ m.s = o.s ∧ o.u < m.u
instance (a b : Rc) : Decidable (newP a b) := by unfold newP; infer_instance
theorem or_pos1 (a : Int) : 0 < orI [a] ↔ 0 < a := by
  unfold orI
  by_cases h : a = 0 <;> simp [h]
theorem or_pos (a : Int) (l : List Int) : 0 < orI (a :: l) ↔ 0 < a ∨ a = 0 ∧ 0 < orI l := by
  unfold orI
  by_cases h : a = 0
  · simp [h]
  · simp [h]
theorem cmp_pos (a b : Int) : 0 < Lib.compareInt a b ↔ b < a := by unfold Lib.compareInt; split <;> (try split) <;> omega
theorem cmp_zero' (a b : Int) : Lib.compareInt a b = 0 ↔ a = b := by unfold Lib.compareInt; split <;> (try split) <;> omega
theorem newP_or (m o : Rc) : decide (0 < orI [Lib.compareInt m.s o.s, Lib.compareInt m.u o.u]) = decide (newP m o) := by
  have : 0 < orI [Lib.compareInt m.s o.s, Lib.compareInt m.u o.u] ↔ newP m o := by
    unfold newP
    rw [or_pos, or_pos1, cmp_pos, cmp_zero', cmp_pos]
  by_cases h : newP m o
  · rw [decide_eq_true h, decide_eq_true (this.2 h)]
  · rw [decide_eq_false h, decide_eq_false (fun e => h (this.1 e))]
theorem or_cells (w : World) (l : List Int) (t : TypeId) (n : Nat) : ∀ (k : Nat) (v : Int), l[k]? = some v → ((w.alloc (.cells (l.map (Value.int .i64)).toArray t)).drewN n).cell? ((⟨w.heap.size, 0, none⟩ : Addr).add k) = some (.int .i64 v) := by
  intro k v h
  rw [add_g]
  have := (Blk.new w (l.map (Value.int .i64)).toArray t).cell k
  refine Eq.trans (show _ = _ from this) ?_
  simp [h]

set_option maxRecDepth 100000 in
set_option maxHeartbeats 2000000 in
theorem memNewer (k1 k2 : Int) (r1 r2 : Rc) (w : World) :
    Calls Try.prog 27 #[rcv k1 r1, rcv k2 r2] w fun e w' => e = .returned (.bool (decide (newP r1 r2))) ∧ Mod (fun _ => False) w w' := by
  rw [← newP_or]
  obtain ⟨s1, u1, b1⟩ := r1
  obtain ⟨s2, u2, b2⟩ := r2
  unfold rcv
  dsimp only
  go_enter Try.func27, Try.ntmps27
  go_upto_region 1 with fail
  have ma := ((Mod.refl (fun _ => False) w).alloc (.cells #[.int .i64 k1, .int .i64 s1, .int .i64 u1, .int .i64 b1] TMb)).alloc (.cells #[.int .i64 k2, .int .i64 s2, .int .i64 u2, .int .i64 b2] TMb)
  have X1 := Lib.hid ((Blk.new w #[.int .i64 k1, .int .i64 s1, .int .i64 u1, .int .i64 b1] TMb).alloc (.cells #[.int .i64 k2, .int .i64 s2, .int .i64 u2, .int .i64 b2] TMb))
  have X2 := Lib.hid (Blk.new (w.alloc (.cells #[.int .i64 k1, .int .i64 s1, .int .i64 u1, .int .i64 b1] TMb)) #[.int .i64 k2, .int .i64 s2, .int .i64 u2, .int .i64 b2] TMb)
  rw [show (w.alloc (.cells #[.int .i64 k1, .int .i64 s1, .int .i64 u1, .int .i64 b1] TMb)).heap.size = w.heap.size + 1 by simp] at X2
  have MW := Lib.hid ma
  generalize (w.alloc (.cells #[.int .i64 k1, .int .i64 s1, .int .i64 u1, .int .i64 b1] TMb)).alloc (.cells #[.int .i64 k2, .int .i64 s2, .int .i64 u2, .int .i64 b2] TMb) = w3 at *
  have x1 := X1.out.cell 1; have x2 := X1.out.cell 2
  have y1 := X2.out.cell 1; have y2 := X2.out.cell 2
  clear ma
  refine wp_region2 [] [46, 45] (by kernel_rfl) (by kernel_rfl) ?_
  repeat (first | (refine reg_anyT (by rfl) (fun K hK => ?_); go_simp; refine hK _ _ ?_; clear hK K) | (refine reg_read (by rfl) (fun K hK => ?_); go_simp; refine hK _ _ ?_; clear hK K))
  refine reg_read (by rfl) (fun K hK => ?_); go_simp
  refine ⟨_, fun rn => rd_same (((Try.cmp_Compare_int s1 s2 _).mono (fun e w' ⟨h1, h2⟩ => ⟨h1, h2.symm⟩))), hK _ _ ?_⟩; clear hK K
  repeat (first | (refine reg_anyT (by rfl) (fun K hK => ?_); go_simp; refine hK _ _ ?_; clear hK K) | (refine reg_read (by rfl) (fun K hK => ?_); go_simp; refine hK _ _ ?_; clear hK K))
  refine reg_read (by rfl) (fun K hK => ?_); go_simp
  refine ⟨_, fun rn => rd_same (((Try.cmp_Compare_int u1 u2 _).mono (fun e w' ⟨h1, h2⟩ => ⟨h1, h2.symm⟩))), hK _ _ ?_⟩; clear hK K
  repeat (first | (refine reg_anyT (by rfl) (fun K hK => ?_); go_simp; refine hK _ _ ?_; clear hK K) | (refine reg_read (by rfl) (fun K hK => ?_); go_simp; refine hK _ _ ?_; clear hK K))
  refine reg_eff (by rfl) (fun rn K hK => ?_); go_simp
  refine hK _ _ ?_; clear hK K
  repeat (first | (refine reg_anyT (by rfl) (fun K hK => ?_); go_simp; refine hK _ _ ?_; clear hK K) | (refine reg_read (by rfl) (fun K hK => ?_); go_simp; refine hK _ _ ?_; clear hK K))
  refine reg_read (by rfl) (fun K hK => ?_); go_simp
  refine ⟨_, fun rn => rd_same (cmpOr ⟨w3.heap.size, 0, none⟩ 2 [Lib.compareInt s1 s2, Lib.compareInt u1 u2] _ (or_cells (w3.drewN _) [Lib.compareInt s1 s2, Lib.compareInt u1 u2] _ rn) (by simp)), hK _ _ ?_⟩; clear hK K
  repeat (first | (refine reg_anyT (by rfl) (fun K hK => ?_); go_simp; refine hK _ _ ?_; clear hK K) | (refine reg_read (by rfl) (fun K hK => ?_); go_simp; refine hK _ _ ?_; clear hK K))
  refine reg_nil (fun nd => ?_)
  go_wp2_with fail
  go_ret
  exact ⟨rfl, ((MW.out.drewN _).alloc _).drewN _⟩
end Go.Proofs.Ytagiodagbfahpaa
