/- Package member: Hear; no condition. -/
import Derived.Test.YtagiodagbfahpaaMbG
import Derived.Deep.CutRange
namespace Go.Proofs.Ytagiodagbfahpaa
open Go Go.RowKit

/-- May one hear such a word? -/
def WordOk (m : Int × Rc) (now : Int) : Prop := 1 ≤ m.1 ∧ m.1 ≤ 65536 ∧ 0 ≤ m.2.s ∧ m.2.s ≤ 1073741824 ∧ 1 ≤ m.2.u ∧ m.2.u ≤ 3 ∧ 0 ≤ now ∧ now ≤ 1099511627776
instance (m : Int × Rc) (n : Int) : Decidable (WordOk m n) := by unfold WordOk; infer_instance
def hearS (S m : Int × Rc) : Int × Rc := if newP m.2 S.2 then (S.1, ⟨min (m.2.s + 1) 1073741824, S.2.u, S.2.b⟩) else S
def takes (ks : List (Int × Rc)) (m : Int × Rc) : Bool := match lkL ks m.1 with
  | some o => decide (newP m.2 o)
  | none => !(m.2.u == 3)
def hearL (most : Int) (ks : List (Int × Rc)) (m : Int × Rc) (now : Int) : List (Int × Rc) := cutX most (putL ks m.1 ⟨m.2.s, m.2.u, now⟩)

set_option maxRecDepth 100000 in
set_option maxHeartbeats 1000000 in
theorem memHearBad (m : Int × Rc) (now : Int) (b : Nat) (w : World) (h : ¬ WordOk m now) :
    Calls Try.prog 12 #[.pointer (some ⟨b, 0, none⟩), rcv m.1 m.2, .int .i64 now] w fun e w' => e = .returned (.tuple #[.bool false, .int .i64 1]) ∧ Mod (fun _ => False) w w' := by
  obtain ⟨id, s, u, bb⟩ := m
  unfold WordOk at h
  unfold rcv
  dsimp only at h ⊢
  have B1 := Lib.hid (Blk.new w #[.int .i64 id, .int .i64 s, .int .i64 u, .int .i64 bb] TMb)
  by_cases g1 : 1 ≤ id ∧ id ≤ 65536
  · have e1 := in_yes g1
    by_cases g2 : 0 ≤ s ∧ s ≤ 1073741824
    · have e2 := in_yes g2
      by_cases g3 : 1 ≤ u ∧ u ≤ 3
      · have e3 := in_yes g3
        have e4 : (decide (0 ≤ now) && decide (now ≤ 1099511627776)) = false := in_no (by omega)
        clear h g1 g2 g3
        go_enter Try.func12, Try.ntmps12
        go_wp2_with fail
        refine (memWithin _ _ _ _).mono ?_; rw [e1]; rintro e w' ⟨rfl, rfl⟩
        go_wp2_with fail
        refine (memWithin _ _ _ _).mono ?_; rw [e2]; rintro e w' ⟨rfl, rfl⟩
        go_wp2_with fail
        refine (memWithin _ _ _ _).mono ?_; rw [e3]; rintro e w' ⟨rfl, rfl⟩
        go_wp2_with fail
        refine (memWithin _ _ _ _).mono ?_; rw [e4]; rintro e w' ⟨rfl, rfl⟩
        go_wp2_with fail
        go_ret2
        exact ⟨rfl, (Mod.refl _ w).alloc _⟩
      · have e3 := in_no g3
        clear h g1 g2 g3
        go_enter Try.func12, Try.ntmps12
        go_wp2_with fail
        refine (memWithin _ _ _ _).mono ?_; rw [e1]; rintro e w' ⟨rfl, rfl⟩
        go_wp2_with fail
        refine (memWithin _ _ _ _).mono ?_; rw [e2]; rintro e w' ⟨rfl, rfl⟩
        go_wp2_with fail
        refine (memWithin _ _ _ _).mono ?_; rw [e3]; rintro e w' ⟨rfl, rfl⟩
        go_wp2_with fail
        go_ret2
        exact ⟨rfl, (Mod.refl _ w).alloc _⟩
    · have e2 := in_no g2
      clear h g1 g2
      go_enter Try.func12, Try.ntmps12
      go_wp2_with fail
      refine (memWithin _ _ _ _).mono ?_; rw [e1]; rintro e w' ⟨rfl, rfl⟩
      go_wp2_with fail
      refine (memWithin _ _ _ _).mono ?_; rw [e2]; rintro e w' ⟨rfl, rfl⟩
      go_wp2_with fail
      go_ret2
      exact ⟨rfl, (Mod.refl _ w).alloc _⟩
  · have e1 := in_no g1
    clear h g1
    go_enter Try.func12, Try.ntmps12
    go_wp2_with fail
    refine (memWithin _ _ _ _).mono ?_; rw [e1]; rintro e w' ⟨rfl, rfl⟩
    go_wp2_with fail
    go_ret2
    exact ⟨rfl, (Mod.refl _ w).alloc _⟩

set_option maxRecDepth 100000 in
set_option maxHeartbeats 2000000 in
theorem memHearSelf (m : Int × Rc) (now : Int) (b M : Nat) (S : Int × Rc) (most : Int) (ks : List (Int × Rc)) (w : World) (h : VW w b M S most ks) (hw : WordOk m now) (hs : m.1 = S.1) :
    Calls Try.prog 12 #[.pointer (some ⟨b, 0, none⟩), rcv m.1 m.2, .int .i64 now] w fun e w' => e = .returned (.tuple #[.bool (decide (newP m.2 S.2)), .int .i64 0]) ∧ VW w' b M (hearS S m) most ks ∧ Mod (· = b) w w' := by
  obtain ⟨id, s, u, bb⟩ := m
  obtain ⟨id', s', u', bb'⟩ := S
  unfold WordOk at hw
  unfold rcv
  dsimp only at hs hw ⊢
  subst hs
  have e1 := in_yes (n := id) (lo := 1) (hi := 65536) ⟨hw.1, hw.2.1⟩
  have e2 := in_yes (n := s) (lo := 0) (hi := 1073741824) ⟨hw.2.2.1, hw.2.2.2.1⟩
  have e3 := in_yes (n := u) (lo := 1) (hi := 3) ⟨hw.2.2.2.2.1, hw.2.2.2.2.2.1⟩
  have e4 := in_yes (n := now) (lo := 0) (hi := 1099511627776) ⟨hw.2.2.2.2.2.2.1, hw.2.2.2.2.2.2.2⟩
  have hsb : 0 ≤ s ∧ s ≤ 1073741824 := ⟨hw.2.2.1, hw.2.2.2.1⟩
  have m1 := (Mod.refl (fun _ => False) w).alloc (.cells #[.int .i64 id, .int .i64 s, .int .i64 u, .int .i64 bb] TMb)
  have B1 := Lib.hid (Blk.new w #[.int .i64 id, .int .i64 s, .int .i64 u, .int .i64 bb] TMb)
  have V1 := Lib.hid (h.new m1)
  have M1 := Lib.hid m1
  obtain ⟨NB, hNB⟩ : ∃ NB, NB = decide (newP ⟨s, u, bb⟩ ⟨s', u', bb'⟩) := ⟨_, rfl⟩
  have HNW := Lib.hid (fun w => memNewer id id ⟨s, u, bb⟩ ⟨s', u', bb'⟩ w)
  rw [← hNB] at HNW ⊢
  have HNB := Lib.hid hNB
  have HH : Hid (hearS (id, ⟨s', u', bb'⟩) (id, ⟨s, u, bb⟩) = if NB then (id, ⟨min (s + 1) 1073741824, u', bb'⟩) else (id, ⟨s', u', bb'⟩)) := by
    show _ = _
    unfold hearS
    rw [hNB]
    by_cases hn : newP ⟨s, u, bb⟩ ⟨s', u', bb'⟩
    · rw [if_pos hn, decide_eq_true hn]; rfl
    · rw [if_neg hn, decide_eq_false hn]; rfl
  unfold rcv at HNW
  clear h hw m1 hNB
  go_enter Try.func12, Try.ntmps12
  go_wp2_with fail
  refine (memWithin _ _ _ _).mono ?_; rw [e1]; rintro e w' ⟨rfl, rfl⟩
  go_wp2_with fail
  refine (memWithin _ _ _ _).mono ?_; rw [e2]; rintro e w' ⟨rfl, rfl⟩
  go_wp2_with fail
  refine (memWithin _ _ _ _).mono ?_; rw [e3]; rintro e w' ⟨rfl, rfl⟩
  go_wp2_with fail
  refine (memWithin _ _ _ _).mono ?_; rw [e4]; rintro e w' ⟨rfl, rfl⟩
  clear e1 e2 e3 e4
  go_upto_region 3 with fail
  generalize w.alloc (.cells #[.int .i64 id, .int .i64 s, .int .i64 u, .int .i64 bb] TMb) = w1 at *
  have x0 := B1.out.cell 0
  have v0 := V1.out.head.cell 0
  go_quiet (fail)
  have V2 := Lib.hid (V1.out.drewN nq)
  have B2 := Lib.hid (B1.out.drewN nq)
  have M2 := Lib.hid (M1.out.drewN nq)
  clear x0 v0 V1 B1 M1
  generalize w1.drewN nq = w2 at *
  go_upto_region 4 with fail
  have x0 := B2.out.cell 0; have x1 := B2.out.cell 1; have x2 := B2.out.cell 2; have x3 := B2.out.cell 3
  have v0 := V2.out.head.cell 0; have v1 := V2.out.head.cell 1; have v2 := V2.out.head.cell 2; have v3 := V2.out.head.cell 3
  refine wp_region2 [] [] (by kernel_rfl) (by kernel_rfl) ?_
  repeat (first | (refine reg_anyT (by rfl) (fun K hK => ?_); go_simp; refine hK _ _ ?_; clear hK K) | (refine reg_read (by rfl) (fun K hK => ?_); go_simp; refine hK _ _ ?_; clear hK K))
  refine reg_eff (by rfl) (fun rn K hK => ?_); go_simp
  refine (HNW.out _).mono ?_; rintro e w' ⟨rfl, m3⟩
  refine hK _ _ ?_; clear hK K
  repeat (first | (refine reg_anyT (by rfl) (fun K hK => ?_); go_simp; refine hK _ _ ?_; clear hK K) | (refine reg_read (by rfl) (fun K hK => ?_); go_simp; refine hK _ _ ?_; clear hK K))
  refine reg_nil (fun nd => ?_)
  have V3 := Lib.hid (V2.out.new (m3.undrew.drewN nd))
  have B3 := Lib.hid (B2.out.mod (m3.undrew.drewN nd) (fun h => h))
  have M3 := Lib.hid (M2.out.trans (m3.undrew.drewN nd))
  clear x0 x1 x2 x3 v0 v1 v2 v3 m3 B2 M2
  generalize World.drewN w' nd = w3 at *
  have x1 := B3.out.cell 1
  have f1 : w3.frozen? ⟨b, 1, none⟩ = false := V3.out.head.frozen 1
  have v1 := V3.out.head.cell 1
  cases hNv : NB with
  | true =>
    have HH2 : Hid (hearS (id, ⟨s', u', bb'⟩) (id, ⟨s, u, bb⟩) = (id, ⟨min (s + 1) 1073741824, u', bb'⟩)) := by have := HH.out; rw [hNv] at this; exact this
    have HNv := Lib.hid hNv
    clear hNv
    go_wp2_with fail
    go_ret2
    refine ⟨by rw [HNv.out]; rfl, ?_, (M3.out.mono (fun _ _ h => h.elim)).set1 1 _⟩
    rw [HH2.out]
    exact ⟨V3.out.head.set 1 _, V3.out.map.setCell V3.out.ne _, V3.out.ne⟩
  | false =>
    have HH2 : Hid (hearS (id, ⟨s', u', bb'⟩) (id, ⟨s, u, bb⟩) = (id, ⟨s', u', bb'⟩)) := by have := HH.out; rw [hNv] at this; exact this
    have HNv := Lib.hid hNv
    clear hNv
    go_wp2_with fail
    go_ret2
    exact ⟨by rw [HNv.out]; rfl, by rw [HH2.out]; exact V3.out, M3.out.mono (fun _ _ h => h.elim)⟩

theorem IMap.ex {P : Program} {K : TypeId} {w w' : World} {b : Nat} {l : List (Int × Value)} (h : IMap P K w b l) (hm : Ex w w') : IMap P K w' b l := by
  refine ⟨h.rising, ?_⟩
  have hlt := h.lt
  obtain ⟨es, clock, hb, r⟩ := h.owns
  exact ⟨es, clock, (hm.2 b hlt).trans hb, r⟩
set_option maxRecDepth 100000 in
set_option maxHeartbeats 2000000 in
theorem memHearNo (m : Int × Rc) (now : Int) (b M : Nat) (S : Int × Rc) (most : Int) (ks : List (Int × Rc)) (w : World) (h : VW w b M S most ks) (hw : WordOk m now) (hs : ¬ m.1 = S.1) (ht : takes ks m = false) :
    Calls Try.prog 12 #[.pointer (some ⟨b, 0, none⟩), rcv m.1 m.2, .int .i64 now] w fun e w' => e = .returned (.tuple #[.bool false, .int .i64 0]) ∧ Mod (fun _ => False) w w' := by
  obtain ⟨id, s, u, bb⟩ := m
  obtain ⟨id', s', u', bb'⟩ := S
  unfold WordOk at hw
  unfold rcv
  dsimp only at hs hw ht ⊢
  have e1 := in_yes (n := id) (lo := 1) (hi := 65536) ⟨hw.1, hw.2.1⟩
  have e2 := in_yes (n := s) (lo := 0) (hi := 1073741824) ⟨hw.2.2.1, hw.2.2.2.1⟩
  have e3 := in_yes (n := u) (lo := 1) (hi := 3) ⟨hw.2.2.2.2.1, hw.2.2.2.2.2.1⟩
  have e4 := in_yes (n := now) (lo := 0) (hi := 1099511627776) ⟨hw.2.2.2.2.2.2.1, hw.2.2.2.2.2.2.2⟩
  have hI : I64 id := i64_of (by omega) (by omega)
  have m1 := (Mod.refl (fun _ => False) w).alloc (.cells #[.int .i64 id, .int .i64 s, .int .i64 u, .int .i64 bb] TMb)
  have B1 := Lib.hid (Blk.new w #[.int .i64 id, .int .i64 s, .int .i64 u, .int .i64 bb] TMb)
  have V1 := Lib.hid (h.new m1)
  have M1 := Lib.hid m1
  have hse : (id == id') = false := by simpa using hs
  have HLT := Lib.hid h.lt
  have HI := Lib.hid hI
  clear h hw m1 hs hI
  go_enter Try.func12, Try.ntmps12
  go_wp2_with fail
  refine (memWithin _ _ _ _).mono ?_; rw [e1]; rintro e w' ⟨rfl, rfl⟩
  go_wp2_with fail
  refine (memWithin _ _ _ _).mono ?_; rw [e2]; rintro e w' ⟨rfl, rfl⟩
  go_wp2_with fail
  refine (memWithin _ _ _ _).mono ?_; rw [e3]; rintro e w' ⟨rfl, rfl⟩
  go_wp2_with fail
  refine (memWithin _ _ _ _).mono ?_; rw [e4]; rintro e w' ⟨rfl, rfl⟩
  clear e1 e2 e3 e4
  go_upto_region 3 with fail
  generalize w.alloc (.cells #[.int .i64 id, .int .i64 s, .int .i64 u, .int .i64 bb] TMb) = w1 at *
  have x0 := B1.out.cell 0
  have v0 := V1.out.head.cell 0
  go_quiet (fail)
  have V2 := Lib.hid (V1.out.drewN nq)
  have B2 := Lib.hid (B1.out.drewN nq)
  have M2 := Lib.hid (M1.out.drewN nq)
  clear x0 v0 V1 B1 M1
  generalize w1.drewN nq = w2 at *
  go_upto_region 8 with fail
  have x0 := B2.out.cell 0
  have v5 := V2.out.head.cell 5
  have hl := fun w' (hw' : Ex w2 w') => (V2.out.map.ex hw').lookOk Try.underlying3 Try.underlying64 (zeroKnown _) HI.out
  have hsome : (lkL (mp ks) id).isSome = (lkL ks id).isSome := by rw [lk_mp]; cases lkL ks id <;> rfl
  rw [at_mp, hsome] at hl
  clear hsome
  obtain ⟨ri, hri⟩ : ∃ r, r = idf ks id := ⟨_, rfl⟩
  obtain ⟨⟨os, ou, ob⟩, hr⟩ : ∃ r, r = rd ks id := ⟨_, rfl⟩
  obtain ⟨o, ho⟩ : ∃ o, o = (lkL ks id).isSome := ⟨_, rfl⟩
  rw [← hri, ← hr, ← ho] at hl
  have HRR := Lib.hid hr
  have HOO := Lib.hid ho
  have HT := Lib.hid ht
  clear hri hr ho ht
  refine wp_region2 [(3, 3), (5, 3), (6, 3), (10, 4)] [] (by kernel_rfl) (by kernel_rfl) ?_
  repeat (first | (refine reg_anyT (by rfl) (fun K hK => ?_); go_simp; refine hK _ _ ?_; clear hK K) | (refine reg_read (by rfl) (fun K hK => ?_); go_simp; refine hK _ _ ?_; clear hK K))
  refine reg_hold_v (by rfl) (by rfl) (.map (some M)) (fun w' hw' => q_load _ _ _ rfl rfl Try.isAgg64 (hw'.cell v5)) ?_
  repeat (first | (refine reg_anyT (by rfl) (fun K hK => ?_); go_simp; refine hK _ _ ?_; clear hK K) | (refine reg_read (by rfl) (fun K hK => ?_); go_simp; refine hK _ _ ?_; clear hK K))
  refine reg_hold_v (by rfl) (by rfl) (.int .i64 id) (fun w' hw' => q_load _ _ _ rfl rfl Try.isAgg3 (hw'.cell x0)) ?_
  repeat (first | (refine reg_anyT (by rfl) (fun K hK => ?_); go_simp; refine hK _ _ ?_; clear hK K) | (refine reg_read (by rfl) (fun K hK => ?_); go_simp; refine hK _ _ ?_; clear hK K))
  refine reg_hold_v (by rfl) (by rfl) (.tuple #[.agg #[.int .i64 ri, .int .i64 os, .int .i64 ou, .int .i64 ob], .bool o]) (fun w' hw' => by
    have e0 := hl w' hw'
    unfold Oper.quietAt
    go_simp) ?_
  repeat (first | (refine reg_anyT (by rfl) (fun K hK => ?_); go_simp; refine hK _ _ ?_; clear hK K) | (refine reg_read (by rfl) (fun K hK => ?_); go_simp; refine hK _ _ ?_; clear hK K))
  have hz := zeroKnown
  refine reg_new (by rfl) (fun rn K hK => ?_); go_simp
  refine hK _ _ ⟨((Mod.refl (fun _ => False) (w2.drewN rn)).alloc _).ex, ?_⟩; clear hK K
  have BN := Lib.hid (show Blk ((w2.drewN rn).alloc (.cells #[.int .i64 0, .int .i64 0, .int .i64 0, .int .i64 0] TMb)) w2.heap.size #[.int .i64 0, .int .i64 0, .int .i64 0, .int .i64 0] TMb from Blk.new (w2.drewN rn) _ _)
  have MN := Lib.hid (show Mod (fun _ => False) w2 ((w2.drewN rn).alloc (.cells #[.int .i64 0, .int .i64 0, .int .i64 0, .int .i64 0] TMb)) from ((Mod.refl _ w2).drewN rn).alloc _)
  generalize (w2.drewN rn).alloc (.cells #[.int .i64 0, .int .i64 0, .int .i64 0, .int .i64 0] TMb) = w4 at *
  have z0 := BN.out.cell 0; have z1 := BN.out.cell 1; have z2 := BN.out.cell 2; have z3 := BN.out.cell 3
  have f0 := BN.out.frozen 0; have f1 := BN.out.frozen 1; have f2 := BN.out.frozen 2; have f3 := BN.out.frozen 3
  repeat (first | (refine reg_anyT (by rfl) (fun K hK => ?_); go_simp; refine hK _ _ ?_; clear hK K) | (refine reg_read (by rfl) (fun K hK => ?_); go_simp; refine hK _ _ ?_; clear hK K))
  refine reg_eff (by rfl) (fun rn2 K hK => ?_); go_simp; refine hK _ _ ?_; clear hK K
  repeat (first | (refine reg_anyT (by rfl) (fun K hK => ?_); go_simp; refine hK _ _ ?_; clear hK K) | (refine reg_read (by rfl) (fun K hK => ?_); go_simp; refine hK _ _ ?_; clear hK K))
  refine reg_nil (fun nd => ?_)
  have B5 := Lib.hid ((((((show Blk (w4.drewN rn2) w2.heap.size _ TMb from BN.out).set 0 (.int .i64 ri)).set 1 (.int .i64 os)).set 2 (.int .i64 ou)).set 3 (.int .i64 ob)).drewN nd)
  have M5 := Lib.hid (((((((MN.out.drewN rn2).setCell (p := ⟨w2.heap.size, 0, none⟩) (.inr (Nat.le_refl _)) (.int .i64 ri)).setCell (p := ⟨w2.heap.size, 1, none⟩) (.inr (Nat.le_refl _)) (.int .i64 os)).setCell (p := ⟨w2.heap.size, 2, none⟩) (.inr (Nat.le_refl _)) (.int .i64 ou)).setCell (p := ⟨w2.heap.size, 3, none⟩) (.inr (Nat.le_refl _)) (.int .i64 ob))).drewN nd)
  clear z0 z1 z2 z3 f0 f1 f2 f3 BN MN x0 v5 hl
  generalize (((((w4.drewN rn2).setCell ⟨w2.heap.size, 0, none⟩ (.int .i64 ri)).setCell ⟨w2.heap.size, 1, none⟩ (.int .i64 os)).setCell ⟨w2.heap.size, 2, none⟩ (.int .i64 ou)).setCell ⟨w2.heap.size, 3, none⟩ (.int .i64 ob)).drewN nd = w5 at *
  have V5 := Lib.hid (V2.out.new M5.out)
  have X5 := Lib.hid (B2.out.mod M5.out (fun h => h))
  have M6 := Lib.hid (M2.out.trans M5.out)
  clear V2 B2 M2 M5
  have x0 := X5.out.cell 0; have x1 := X5.out.cell 1; have x2 := X5.out.cell 2; have x3 := X5.out.cell 3
  have y0 := B5.out.cell 0; have y1 := B5.out.cell 1; have y2 := B5.out.cell 2; have y3 := B5.out.cell 3
  cases hk : lkL ks id with
  | none =>
    have ho : o = false := by rw [HOO.out, hk]; rfl
    subst ho
    have hu3 : (u == 3) = true := by have := HT.out; unfold takes at this; dsimp only at this; rw [hk] at this; simpa using this
    clear hk
    go_wp2_with fail
    go_ret2
    exact ⟨rfl, M6.out⟩
  | some q =>
    have ho : o = true := by rw [HOO.out, hk]; rfl
    subst ho
    have hq : q = ⟨os, ou, ob⟩ := by rw [HRR.out]; unfold rd; rw [hk]; rfl
    have hnp : decide (newP ⟨s, u, bb⟩ ⟨os, ou, ob⟩) = false := by have := HT.out; unfold takes at this; dsimp only at this; rw [hk, hq] at this; exact this
    have HNW := Lib.hid (memNewer id ri ⟨s, u, bb⟩ ⟨os, ou, ob⟩ w5)
    rw [hnp] at HNW
    unfold rcv at HNW
    clear hk hq hnp
    go_wp2_with fail
    refine HNW.out.mono ?_; rintro e w6 ⟨rfl, m6⟩
    go_wp2_with fail
    go_ret2
    exact ⟨rfl, M6.out.trans m6⟩

set_option maxRecDepth 100000 in
set_option maxHeartbeats 4000000 in
theorem memHearYes (m : Int × Rc) (now : Int) (b M : Nat) (S : Int × Rc) (most : Int) (ks : List (Int × Rc)) (w : World) (h : VW w b M S most ks) (hw : WordOk m now) (hs : ¬ m.1 = S.1) (ht : takes ks m = true) (hlen : ks.length ≤ 999) (hu : OkU (putL ks m.1 ⟨m.2.s, m.2.u, now⟩)) (hi2 : I64 (firstK (putL ks m.1 ⟨m.2.s, m.2.u, now⟩))) (hlen2 : (putL ks m.1 ⟨m.2.s, m.2.u, now⟩).length ≤ 1000) :
    Calls Try.prog 12 #[.pointer (some ⟨b, 0, none⟩), rcv m.1 m.2, .int .i64 now] w fun e w' => e = .returned (.tuple #[.bool true, .int .i64 0]) ∧ VW w' b M S most (hearL most ks m now) ∧ Mod (· = M) w w' := by
  have HLN := Lib.hid hlen
  have HU := Lib.hid hu
  have HI2 := Lib.hid hi2
  have HLN2 := Lib.hid hlen2
  clear hlen hu hi2 hlen2
  obtain ⟨id, s, u, bb⟩ := m
  obtain ⟨id', s', u', bb'⟩ := S
  unfold WordOk at hw
  unfold rcv
  dsimp only at hs hw ht ⊢
  have e1 := in_yes (n := id) (lo := 1) (hi := 65536) ⟨hw.1, hw.2.1⟩
  have e2 := in_yes (n := s) (lo := 0) (hi := 1073741824) ⟨hw.2.2.1, hw.2.2.2.1⟩
  have e3 := in_yes (n := u) (lo := 1) (hi := 3) ⟨hw.2.2.2.2.1, hw.2.2.2.2.2.1⟩
  have e4 := in_yes (n := now) (lo := 0) (hi := 1099511627776) ⟨hw.2.2.2.2.2.2.1, hw.2.2.2.2.2.2.2⟩
  have hI : I64 id := i64_of (by omega) (by omega)
  have m1 := (Mod.refl (fun _ => False) w).alloc (.cells #[.int .i64 id, .int .i64 s, .int .i64 u, .int .i64 bb] TMb)
  have B1 := Lib.hid (Blk.new w #[.int .i64 id, .int .i64 s, .int .i64 u, .int .i64 bb] TMb)
  have V1 := Lib.hid (h.new m1)
  have M1 := Lib.hid m1
  have hse : (id == id') = false := by simpa using hs
  have HLT := Lib.hid h.lt
  have HI := Lib.hid hI
  clear h hw m1 hs hI
  go_enter Try.func12, Try.ntmps12
  go_wp2_with fail
  refine (memWithin _ _ _ _).mono ?_; rw [e1]; rintro e w' ⟨rfl, rfl⟩
  go_wp2_with fail
  refine (memWithin _ _ _ _).mono ?_; rw [e2]; rintro e w' ⟨rfl, rfl⟩
  go_wp2_with fail
  refine (memWithin _ _ _ _).mono ?_; rw [e3]; rintro e w' ⟨rfl, rfl⟩
  go_wp2_with fail
  refine (memWithin _ _ _ _).mono ?_; rw [e4]; rintro e w' ⟨rfl, rfl⟩
  clear e1 e2 e3 e4
  go_upto_region 3 with fail
  generalize w.alloc (.cells #[.int .i64 id, .int .i64 s, .int .i64 u, .int .i64 bb] TMb) = w1 at *
  have x0 := B1.out.cell 0
  have v0 := V1.out.head.cell 0
  go_quiet (fail)
  have V2 := Lib.hid (V1.out.drewN nq)
  have B2 := Lib.hid (B1.out.drewN nq)
  have M2 := Lib.hid (M1.out.drewN nq)
  clear x0 v0 V1 B1 M1
  generalize w1.drewN nq = w2 at *
  go_upto_region 8 with fail
  have x0 := B2.out.cell 0
  have v5 := V2.out.head.cell 5
  have hl := fun w' (hw' : Ex w2 w') => (V2.out.map.ex hw').lookOk Try.underlying3 Try.underlying64 (zeroKnown _) HI.out
  have hsome : (lkL (mp ks) id).isSome = (lkL ks id).isSome := by rw [lk_mp]; cases lkL ks id <;> rfl
  rw [at_mp, hsome] at hl
  clear hsome
  obtain ⟨k2, hk2⟩ : ∃ k2, k2 = putL ks id ⟨s, u, now⟩ := ⟨_, rfl⟩
  rw [← hk2] at HU HI2 HLN2
  have HK2 := Lib.hid hk2
  obtain ⟨ri, hri⟩ : ∃ r, r = idf ks id := ⟨_, rfl⟩
  obtain ⟨⟨os, ou, ob⟩, hr⟩ : ∃ r, r = rd ks id := ⟨_, rfl⟩
  obtain ⟨o, ho⟩ : ∃ o, o = (lkL ks id).isSome := ⟨_, rfl⟩
  rw [← hri, ← hr, ← ho] at hl
  have HRR := Lib.hid hr
  have HOO := Lib.hid ho
  have HT := Lib.hid ht
  clear hri hr ho ht hk2
  refine wp_region2 [(3, 3), (5, 3), (6, 3), (10, 4)] [] (by kernel_rfl) (by kernel_rfl) ?_
  repeat (first | (refine reg_anyT (by rfl) (fun K hK => ?_); go_simp; refine hK _ _ ?_; clear hK K) | (refine reg_read (by rfl) (fun K hK => ?_); go_simp; refine hK _ _ ?_; clear hK K))
  refine reg_hold_v (by rfl) (by rfl) (.map (some M)) (fun w' hw' => q_load _ _ _ rfl rfl Try.isAgg64 (hw'.cell v5)) ?_
  repeat (first | (refine reg_anyT (by rfl) (fun K hK => ?_); go_simp; refine hK _ _ ?_; clear hK K) | (refine reg_read (by rfl) (fun K hK => ?_); go_simp; refine hK _ _ ?_; clear hK K))
  refine reg_hold_v (by rfl) (by rfl) (.int .i64 id) (fun w' hw' => q_load _ _ _ rfl rfl Try.isAgg3 (hw'.cell x0)) ?_
  repeat (first | (refine reg_anyT (by rfl) (fun K hK => ?_); go_simp; refine hK _ _ ?_; clear hK K) | (refine reg_read (by rfl) (fun K hK => ?_); go_simp; refine hK _ _ ?_; clear hK K))
  refine reg_hold_v (by rfl) (by rfl) (.tuple #[.agg #[.int .i64 ri, .int .i64 os, .int .i64 ou, .int .i64 ob], .bool o]) (fun w' hw' => by
    have e0 := hl w' hw'
    unfold Oper.quietAt
    go_simp) ?_
  repeat (first | (refine reg_anyT (by rfl) (fun K hK => ?_); go_simp; refine hK _ _ ?_; clear hK K) | (refine reg_read (by rfl) (fun K hK => ?_); go_simp; refine hK _ _ ?_; clear hK K))
  have hz := zeroKnown
  refine reg_new (by rfl) (fun rn K hK => ?_); go_simp
  refine hK _ _ ⟨((Mod.refl (fun _ => False) (w2.drewN rn)).alloc _).ex, ?_⟩; clear hK K
  have BN := Lib.hid (show Blk ((w2.drewN rn).alloc (.cells #[.int .i64 0, .int .i64 0, .int .i64 0, .int .i64 0] TMb)) w2.heap.size #[.int .i64 0, .int .i64 0, .int .i64 0, .int .i64 0] TMb from Blk.new (w2.drewN rn) _ _)
  have MN := Lib.hid (show Mod (fun _ => False) w2 ((w2.drewN rn).alloc (.cells #[.int .i64 0, .int .i64 0, .int .i64 0, .int .i64 0] TMb)) from ((Mod.refl _ w2).drewN rn).alloc _)
  generalize (w2.drewN rn).alloc (.cells #[.int .i64 0, .int .i64 0, .int .i64 0, .int .i64 0] TMb) = w4 at *
  have z0 := BN.out.cell 0; have z1 := BN.out.cell 1; have z2 := BN.out.cell 2; have z3 := BN.out.cell 3
  have f0 := BN.out.frozen 0; have f1 := BN.out.frozen 1; have f2 := BN.out.frozen 2; have f3 := BN.out.frozen 3
  repeat (first | (refine reg_anyT (by rfl) (fun K hK => ?_); go_simp; refine hK _ _ ?_; clear hK K) | (refine reg_read (by rfl) (fun K hK => ?_); go_simp; refine hK _ _ ?_; clear hK K))
  refine reg_eff (by rfl) (fun rn2 K hK => ?_); go_simp; refine hK _ _ ?_; clear hK K
  repeat (first | (refine reg_anyT (by rfl) (fun K hK => ?_); go_simp; refine hK _ _ ?_; clear hK K) | (refine reg_read (by rfl) (fun K hK => ?_); go_simp; refine hK _ _ ?_; clear hK K))
  refine reg_nil (fun nd => ?_)
  have B5 := Lib.hid ((((((show Blk (w4.drewN rn2) w2.heap.size _ TMb from BN.out).set 0 (.int .i64 ri)).set 1 (.int .i64 os)).set 2 (.int .i64 ou)).set 3 (.int .i64 ob)).drewN nd)
  have M5 := Lib.hid (((((((MN.out.drewN rn2).setCell (p := ⟨w2.heap.size, 0, none⟩) (.inr (Nat.le_refl _)) (.int .i64 ri)).setCell (p := ⟨w2.heap.size, 1, none⟩) (.inr (Nat.le_refl _)) (.int .i64 os)).setCell (p := ⟨w2.heap.size, 2, none⟩) (.inr (Nat.le_refl _)) (.int .i64 ou)).setCell (p := ⟨w2.heap.size, 3, none⟩) (.inr (Nat.le_refl _)) (.int .i64 ob))).drewN nd)
  clear z0 z1 z2 z3 f0 f1 f2 f3 BN MN x0 v5 hl
  generalize (((((w4.drewN rn2).setCell ⟨w2.heap.size, 0, none⟩ (.int .i64 ri)).setCell ⟨w2.heap.size, 1, none⟩ (.int .i64 os)).setCell ⟨w2.heap.size, 2, none⟩ (.int .i64 ou)).setCell ⟨w2.heap.size, 3, none⟩ (.int .i64 ob)).drewN nd = w5 at *
  have V5 := Lib.hid (V2.out.new M5.out)
  have X5 := Lib.hid (B2.out.mod M5.out (fun h => h))
  have M6 := Lib.hid (M2.out.trans M5.out)
  clear V2 B2 M2 M5
  have x0 := X5.out.cell 0; have x1 := X5.out.cell 1; have x2 := X5.out.cell 2; have x3 := X5.out.cell 3
  have y0 := B5.out.cell 0; have y1 := B5.out.cell 1; have y2 := B5.out.cell 2; have y3 := B5.out.cell 3
  have f3 := X5.out.frozen 3
  cases hk : lkL ks id with
  | none =>
    have ho : o = false := by rw [HOO.out, hk]; rfl
    subst ho
    have hu3 : (u == 3) = false := by have := HT.out; unfold takes at this; dsimp only at this; rw [hk] at this; simpa using this
    clear hk
    go_upto_region 12 with fail
    have M7 := Lib.hid (M6.out.setCell (p := ⟨w.heap.size, 3, none⟩) (.inr (Nat.le_refl _)) (.int .i64 now))
    have X7 := Lib.hid (X5.out.set 3 (.int .i64 now))
    have V7 := Lib.hid (V5.out.mod ((Mod.refl (· = w.heap.size) w5).set1 3 (.int .i64 now)) (fun e => by have := HLT.out; omega) (fun e => by have := HLT.out; omega))
    clear x0 x1 x2 x3 y0 y1 y2 y3 f3
    generalize w5.setCell ⟨w.heap.size, 3, none⟩ (.int .i64 now) = w7 at *
    have HB1 : Hid (VW w7 b M (id', ⟨s', u', bb'⟩) most ks) := V7
    have c31 : w7.cell? ⟨b, 5, none⟩ = some (.map (some M)) := HB1.out.head.cell 5
    have hx0 := X7.out.cell 0; have hx1 := X7.out.cell 1; have hx2 := X7.out.cell 2; have hx3 := X7.out.cell 3
    go_upto_region 12 with fail
    refine wp_region_stages0 [0, 0, 0, 1, 0, 1, 1, 2] (by kernel_rfl) (by kernel_rfl) ?_
    repeat (first | (refine stage_any (fun K hK => ?_); go_simp; refine hK _ _ ?_; clear hK K) | (refine stage_pin (fun K hK => ?_); go_simp; refine hK _ _ ?_; clear hK K))
    obtain ⟨D, hD⟩ : ∃ D : World → Prop, D = fun w' => VW w' b M (id', ⟨s', u', bb'⟩) most k2 ∧ Mod (· = M) w w' := ⟨_, rfl⟩
    refine stage_eff_v (by rfl) undef D (eff_mapUpdate _ _ _ _ rfl (fun w' hw' => ?_)) (by subst hD; exact ⟨fun w n ⟨h1, h2⟩ => ⟨h1.drewN n, h2.drewN n⟩, fun _ _ => trivial⟩) ?_
    · obtain ⟨n, rfl⟩ := hw'
      have hb := HB1.out.drewN n
      obtain ⟨w2', hrun, him, hm2, hz2⟩ := hb.map.put Try.underlying3 Try.underlying64 (by rw [mp_len]; have := HLN.out; unfold maxLen; omega) HI.out (rcv id ⟨s, u, now⟩)
      refine ⟨w2', hrun, ?_⟩
      rw [hD]
      rw [put_mp, ← HK2.out] at him
      exact ⟨⟨hb.head.mod hm2 (fun e => hb.ne e.symm), him, hb.ne⟩, ((M7.out.mono (fun _ _ h => h.elim)).drewN n).trans hm2⟩
    · refine stage_nil ?_
      intro w3 hw3
      rw [hD] at hw3
      obtain ⟨g1, g2⟩ := hw3
      have c33 : w3.cell? ⟨b, 5, none⟩ = some (.map (some M)) := g1.head.cell 5
      have c32 : w3.cell? ⟨b, 4, none⟩ = some (.int .i64 most) := g1.head.cell 4
      have hlen : ∀ n, (Builtin.len_ #[64] 3 #[.map (some M)]).run Try.prog (w3.drewN n) = .ok (.int .i64 (k2.length : Int)) (w3.drewN n) := by
        intro n
        have := (g1.drewN n).map.len (T := 64) Try.underlying64 3
        rw [mp_len] at this
        exact this
      have G := Lib.hid g1
      have G2 := Lib.hid g2
      clear hD g1 g2 hx0 hx1 hx2 hx3 c31
      by_cases hml : most < (k2.length : Int)
      · have HC : Hid (cutX most k2 = delL k2 (firstK k2)) := by show _ = _; unfold cutX; rw [if_pos hml]
        go_upto_region 13 with fail
        go_quiet (fail)
        have G3 := Lib.hid (G.out.drewN nq)
        have M4 := Lib.hid (G2.out.drewN nq)
        have hne : k2 ≠ [] := by rw [HK2.out]; unfold putL; intro e; have := congrArg List.length e; rw [length_insS] at this; simp at this
        have HF := Lib.hid (fun n => memFirst b M (id', ⟨s', u', bb'⟩) most k2 ((w3.drewN nq).drewN n) (G3.out.drewN n) (by have := HLN2.out; omega) hne HU.out)
        have c34 : (w3.drewN nq).cell? ⟨b, 5, none⟩ = some (.map (some M)) := G3.out.head.cell 5
        clear hlen c33 c32
        go_upto_region 14 with fail
        generalize w3.drewN nq = w4 at *
        refine wp_region2 [(3, 3), (5, 4), (6, 2)] [] (by kernel_rfl) (by kernel_rfl) ?_
        repeat (first | (refine reg_anyT (by rfl) (fun K hK => ?_); go_simp; refine hK _ _ ?_; clear hK K) | (refine reg_read (by rfl) (fun K hK => ?_); go_simp; refine hK _ _ ?_; clear hK K))
        refine reg_hold_v (by rfl) (by rfl) (.map (some M)) (fun w' hw' => q_load _ _ _ rfl rfl Try.isAgg64 (hw'.cell c34)) ?_
        repeat (first | (refine reg_anyT (by rfl) (fun K hK => ?_); go_simp; refine hK _ _ ?_; clear hK K) | (refine reg_read (by rfl) (fun K hK => ?_); go_simp; refine hK _ _ ?_; clear hK K))
        refine reg_new (by rfl) (fun rn K hK => ?_); go_simp
        refine (HF.out _).mono ?_; rintro e w' ⟨rfl, m5⟩
        refine hK _ _ ⟨m5.ex, ?_⟩; clear hK K
        repeat (first | (refine reg_anyT (by rfl) (fun K hK => ?_); go_simp; refine hK _ _ ?_; clear hK K) | (refine reg_read (by rfl) (fun K hK => ?_); go_simp; refine hK _ _ ?_; clear hK K))
        have m6 := m5.undrew
        have G5 := Lib.hid (G3.out.new m6)
        refine reg_eff (by rfl) (fun rn K hK => ?_)
        obtain ⟨w6, hrun, him, hm6, hz6⟩ := (G5.out.drewN rn).map.del Try.underlying3 Try.underlying64 0 HI2.out
        go_simp
        refine hK _ _ ?_; clear hK K
        rw [del_mp] at him
        refine reg_nil (fun nd => ?_)
        have G6 : Hid (VW (w6.drewN nd) b M (id', ⟨s', u', bb'⟩) most (cutX most k2)) := by
          show VW _ _ _ _ _ _
          rw [HC.out]
          exact (show VW w6 b M (id', ⟨s', u', bb'⟩) most (delL k2 (firstK k2)) from ⟨(G5.out.drewN _).head.mod hm6 (fun e => G5.out.ne e.symm), him, G5.out.ne⟩).drewN nd
        have M6' := Lib.hid (((M4.out.trans (m6.mono (fun _ _ h => h.elim))).trans hm6.undrew).drewN nd)
        clear hm6 him hz6 hrun m5 m6 c34
        generalize w6.drewN nd = w7' at *
        go_wp2_with fail
        go_ret2
        exact ⟨rfl, by unfold hearL; dsimp only; rw [← HK2.out]; exact G6.out, M6'.out⟩
      · have HC : Hid (cutX most k2 = k2) := by show _ = _; unfold cutX; rw [if_neg hml]
        generalize hL : (k2.length : Int) = L at hlen hml
        clear hL
        go_wp2_with fail
        go_quiet (fail)
        go_wp2_with fail
        go_ret2
        exact ⟨rfl, by unfold hearL; dsimp only; rw [← HK2.out, HC.out]; exact G.out.drewN _, G2.out.drewN _⟩
  | some q =>
    have ho : o = true := by rw [HOO.out, hk]; rfl
    subst ho
    have hq : q = ⟨os, ou, ob⟩ := by rw [HRR.out]; unfold rd; rw [hk]; rfl
    have hnp : decide (newP ⟨s, u, bb⟩ ⟨os, ou, ob⟩) = true := by have := HT.out; unfold takes at this; dsimp only at this; rw [hk, hq] at this; exact this
    have HNW := Lib.hid (memNewer id ri ⟨s, u, bb⟩ ⟨os, ou, ob⟩ w5)
    rw [hnp] at HNW
    unfold rcv at HNW
    clear hk hq hnp
    go_wp2_with fail
    refine HNW.out.mono ?_; rintro e w6 ⟨rfl, m6⟩
    have M8 := Lib.hid (M6.out.trans m6)
    have X8 := Lib.hid (X5.out.mod m6 (fun h => h))
    have V8 := Lib.hid (V5.out.new m6)
    have x0 := X8.out.cell 0; have x1 := X8.out.cell 1; have x2 := X8.out.cell 2; have x3 := X8.out.cell 3
    have f3 := X8.out.frozen 3
    clear y0 y1 y2 y3 m6 M6 X5 V5
    go_upto_region 12 with fail
    have M7 := Lib.hid (M8.out.setCell (p := ⟨w.heap.size, 3, none⟩) (.inr (Nat.le_refl _)) (.int .i64 now))
    have X7 := Lib.hid (X8.out.set 3 (.int .i64 now))
    have V7 := Lib.hid (V8.out.mod ((Mod.refl (· = w.heap.size) w6).set1 3 (.int .i64 now)) (fun e => by have := HLT.out; omega) (fun e => by have := HLT.out; omega))
    clear x0 x1 x2 x3 f3
    generalize w6.setCell ⟨w.heap.size, 3, none⟩ (.int .i64 now) = w7 at *
    have HB1 : Hid (VW w7 b M (id', ⟨s', u', bb'⟩) most ks) := V7
    have c31 : w7.cell? ⟨b, 5, none⟩ = some (.map (some M)) := HB1.out.head.cell 5
    have hx0 := X7.out.cell 0; have hx1 := X7.out.cell 1; have hx2 := X7.out.cell 2; have hx3 := X7.out.cell 3
    go_upto_region 12 with fail
    refine wp_region_stages0 [0, 0, 0, 1, 0, 1, 1, 2] (by kernel_rfl) (by kernel_rfl) ?_
    repeat (first | (refine stage_any (fun K hK => ?_); go_simp; refine hK _ _ ?_; clear hK K) | (refine stage_pin (fun K hK => ?_); go_simp; refine hK _ _ ?_; clear hK K))
    obtain ⟨D, hD⟩ : ∃ D : World → Prop, D = fun w' => VW w' b M (id', ⟨s', u', bb'⟩) most k2 ∧ Mod (· = M) w w' := ⟨_, rfl⟩
    refine stage_eff_v (by rfl) undef D (eff_mapUpdate _ _ _ _ rfl (fun w' hw' => ?_)) (by subst hD; exact ⟨fun w n ⟨h1, h2⟩ => ⟨h1.drewN n, h2.drewN n⟩, fun _ _ => trivial⟩) ?_
    · obtain ⟨n, rfl⟩ := hw'
      have hb := HB1.out.drewN n
      obtain ⟨w2', hrun, him, hm2, hz2⟩ := hb.map.put Try.underlying3 Try.underlying64 (by rw [mp_len]; have := HLN.out; unfold maxLen; omega) HI.out (rcv id ⟨s, u, now⟩)
      refine ⟨w2', hrun, ?_⟩
      rw [hD]
      rw [put_mp, ← HK2.out] at him
      exact ⟨⟨hb.head.mod hm2 (fun e => hb.ne e.symm), him, hb.ne⟩, ((M7.out.mono (fun _ _ h => h.elim)).drewN n).trans hm2⟩
    · refine stage_nil ?_
      intro w3 hw3
      rw [hD] at hw3
      obtain ⟨g1, g2⟩ := hw3
      have c33 : w3.cell? ⟨b, 5, none⟩ = some (.map (some M)) := g1.head.cell 5
      have c32 : w3.cell? ⟨b, 4, none⟩ = some (.int .i64 most) := g1.head.cell 4
      have hlen : ∀ n, (Builtin.len_ #[64] 3 #[.map (some M)]).run Try.prog (w3.drewN n) = .ok (.int .i64 (k2.length : Int)) (w3.drewN n) := by
        intro n
        have := (g1.drewN n).map.len (T := 64) Try.underlying64 3
        rw [mp_len] at this
        exact this
      have G := Lib.hid g1
      have G2 := Lib.hid g2
      clear hD g1 g2 hx0 hx1 hx2 hx3 c31
      by_cases hml : most < (k2.length : Int)
      · have HC : Hid (cutX most k2 = delL k2 (firstK k2)) := by show _ = _; unfold cutX; rw [if_pos hml]
        go_upto_region 13 with fail
        go_quiet (fail)
        have G3 := Lib.hid (G.out.drewN nq)
        have M4 := Lib.hid (G2.out.drewN nq)
        have hne : k2 ≠ [] := by rw [HK2.out]; unfold putL; intro e; have := congrArg List.length e; rw [length_insS] at this; simp at this
        have HF := Lib.hid (fun n => memFirst b M (id', ⟨s', u', bb'⟩) most k2 ((w3.drewN nq).drewN n) (G3.out.drewN n) (by have := HLN2.out; omega) hne HU.out)
        have c34 : (w3.drewN nq).cell? ⟨b, 5, none⟩ = some (.map (some M)) := G3.out.head.cell 5
        clear hlen c33 c32
        go_upto_region 14 with fail
        generalize w3.drewN nq = w4 at *
        refine wp_region2 [(3, 3), (5, 4), (6, 2)] [] (by kernel_rfl) (by kernel_rfl) ?_
        repeat (first | (refine reg_anyT (by rfl) (fun K hK => ?_); go_simp; refine hK _ _ ?_; clear hK K) | (refine reg_read (by rfl) (fun K hK => ?_); go_simp; refine hK _ _ ?_; clear hK K))
        refine reg_hold_v (by rfl) (by rfl) (.map (some M)) (fun w' hw' => q_load _ _ _ rfl rfl Try.isAgg64 (hw'.cell c34)) ?_
        repeat (first | (refine reg_anyT (by rfl) (fun K hK => ?_); go_simp; refine hK _ _ ?_; clear hK K) | (refine reg_read (by rfl) (fun K hK => ?_); go_simp; refine hK _ _ ?_; clear hK K))
        refine reg_new (by rfl) (fun rn K hK => ?_); go_simp
        refine (HF.out _).mono ?_; rintro e w' ⟨rfl, m5⟩
        refine hK _ _ ⟨m5.ex, ?_⟩; clear hK K
        repeat (first | (refine reg_anyT (by rfl) (fun K hK => ?_); go_simp; refine hK _ _ ?_; clear hK K) | (refine reg_read (by rfl) (fun K hK => ?_); go_simp; refine hK _ _ ?_; clear hK K))
        have m6 := m5.undrew
        have G5 := Lib.hid (G3.out.new m6)
        refine reg_eff (by rfl) (fun rn K hK => ?_)
        obtain ⟨w6, hrun, him, hm6, hz6⟩ := (G5.out.drewN rn).map.del Try.underlying3 Try.underlying64 0 HI2.out
        go_simp
        refine hK _ _ ?_; clear hK K
        rw [del_mp] at him
        refine reg_nil (fun nd => ?_)
        have G6 : Hid (VW (w6.drewN nd) b M (id', ⟨s', u', bb'⟩) most (cutX most k2)) := by
          show VW _ _ _ _ _ _
          rw [HC.out]
          exact (show VW w6 b M (id', ⟨s', u', bb'⟩) most (delL k2 (firstK k2)) from ⟨(G5.out.drewN _).head.mod hm6 (fun e => G5.out.ne e.symm), him, G5.out.ne⟩).drewN nd
        have M6' := Lib.hid (((M4.out.trans (m6.mono (fun _ _ h => h.elim))).trans hm6.undrew).drewN nd)
        clear hm6 him hz6 hrun m5 m6 c34
        generalize w6.drewN nd = w7' at *
        go_wp2_with fail
        go_ret2
        exact ⟨rfl, by unfold hearL; dsimp only; rw [← HK2.out]; exact G6.out, M6'.out⟩
      · have HC : Hid (cutX most k2 = k2) := by show _ = _; unfold cutX; rw [if_neg hml]
        generalize hL : (k2.length : Int) = L at hlen hml
        clear hL
        go_wp2_with fail
        go_quiet (fail)
        go_wp2_with fail
        go_ret2
        exact ⟨rfl, by unfold hearL; dsimp only; rw [← HK2.out, HC.out]; exact G.out.drewN _, G2.out.drewN _⟩
end Go.Proofs.Ytagiodagbfahpaa
