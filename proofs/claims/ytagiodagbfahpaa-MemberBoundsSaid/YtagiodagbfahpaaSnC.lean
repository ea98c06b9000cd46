/- The laws on member: a step at both views, of the other kinds, and whole; no condition. -/
import Derived.Test.YtagiodagbfahpaaSnB
namespace Go.Proofs.Ytagiodagbfahpaa
open Go Go.RowKit

theorem fallen_len (now pat : Int) (ks : List (Int × Rc)) : (fallen now pat ks).length ≤ ks.length := by
  unfold fallen
  rw [keys_len]
  exact List.length_filter_le _ _
set_option maxRecDepth 100000 in
set_option maxHeartbeats 4000000 in
theorem step2 (s : Sp) (b M b' base : Nat) (S : Int × Rc) (most : Int) (ks : List (Int × Rc)) (w : World) (h : TwoV w b M b' base S most ks) (hm : most ≤ 64) (hd : s.d = 2) :
    Calls Try.prog 22 #[.pointer (some ⟨b, 0, none⟩), .pointer (some ⟨b', 0, none⟩), .agg (spC s)] w fun e w' => e = .returned (.bool true) ∧ TwoV w' b M b' base (stepS S s) most (stepK S most ks s) ∧ Mod (TurnV b M b' base) w w' := by
  have m1 := (Mod.refl (fun _ => False) w).alloc (.cells (spC s) TSp)
  have T1 := Lib.hid (h.new m1)
  have X1 := Lib.hid (Blk.new w (spC s) TSp)
  have HNE := Lib.hid h.ne
  have HOK := Lib.hid (h.ok.step S s)
  have hl64 := h.len hm
  have HM := Lib.hid hm
  have M1 := Lib.hid m1
  have HB : Hid (w.heap.size ≠ b ∧ w.heap.size ≠ M ∧ w.heap.size ≠ b' ∧ base ≤ w.heap.size) := by have := h.ne; have := h.t.lt; have := h.r.blt; show _ ∧ _ ∧ _ ∧ _; omega
  clear h m1 hm
  obtain ⟨d, ⟨id, ⟨ms, mu, mb⟩⟩, n, t, sd⟩ := s
  dsimp only [spC] at *
  obtain ⟨S2, hS2⟩ : ∃ x, x = stepS S ⟨d, (id, ⟨ms, mu, mb⟩), n, t, sd⟩ := ⟨_, rfl⟩
  obtain ⟨k2, hk2⟩ : ∃ x, x = stepK S most ks ⟨d, (id, ⟨ms, mu, mb⟩), n, t, sd⟩ := ⟨_, rfl⟩
  rw [← hS2, ← hk2]
  rw [← hk2] at HOK
  unfold stepS at hS2
  unfold stepK at hk2
  dsimp only at hS2 hk2
  have HS2 := Lib.hid hS2
  have HK2 := Lib.hid hk2
  clear hS2 hk2
  have e2 : (d == 2) = true := by simpa using hd
  have e1 : (d == 1) = false := by simp; omega
  have e0 : (d == 0) = false := by simp; omega
  have HD := Lib.hid (show ¬ d = 0 ∧ ¬ d = 1 ∧ d = 2 by omega)
  clear hd
  have HSS : Hid (S2 = S) := by show _ = _; rw [HS2.out, if_neg HD.out.1]
  have HKK : Hid (k2 = tickK ks t n) := by show _ = _; rw [HK2.out, if_neg HD.out.1, if_neg HD.out.2.1, if_pos HD.out.2.2]
  rw [HSS.out]
  by_cases hno : 0 ≤ t ∧ t ≤ 1099511627776 ∧ 1 ≤ n ∧ n ≤ 1048576
  · have HE : Hid (k2 = tickL t n ks) := by show _ = _; rw [HKK.out]; unfold tickK; rw [if_pos hno]
    go_enter Try.func22, Try.ntmps22
    go_upto_region 1 with fail
    generalize w.alloc (.cells #[.int .i64 d, .int .i64 id, .int .i64 ms, .int .i64 mu, .int .i64 mb, .int .i64 n, .int .i64 t, .int .u64 sd] TSp) = w1 at *
    obtain ⟨B, hB⟩ : ∃ B, B = w.heap.size := ⟨_, rfl⟩
    rw [← hB] at X1 HB ⊢
    clear hB
    have c0 := X1.out.cell 0; have c1 := X1.out.cell 1; have c2 := X1.out.cell 2; have c3 := X1.out.cell 3; have c4 := X1.out.cell 4; have c5 := X1.out.cell 5; have c6 := X1.out.cell 6; have c7 := X1.out.cell 7
    have HA := Lib.hid (memTick t n b M S most ks w1 T1.out.t T1.out.ok HM.out ⟨hno.1, hno.2.1⟩ ⟨hno.2.2.1, hno.2.2.2⟩)
    have HNO := Lib.hid hno
    have HFL := Lib.hid (fallen_len t n ks)
    clear hno
    go_wp2_with fail
    refine HA.out.mono ?_; rintro e w2 ⟨⟨v2, rfl, o2⟩, t2, m2⟩
    have m2' := mod_w (Q := fun i => i = b ∨ i = M) m2 fun i e => .inr e
    have r2 := T1.out.mid m2'
    have X2 := Lib.hid (X1.out.mod m2' (by have := HB.out; omega))
    have HC := Lib.hid (refVTick t n b' base S most ks w2 r2.1 T1.out.ok HM.out r2.2 ⟨HNO.out.1, HNO.out.2.1⟩ ⟨HNO.out.2.2.1, HNO.out.2.2.2⟩)
    obtain ⟨a2, cap2, rfl, _, _, _⟩ := o2.els
    have O2 := Lib.hid o2
    have T2 := Lib.hid t2
    have M2 := Lib.hid m2'
    clear t2 m2 m2' r2 c0 c1 c2 c3 c4 c5 c6 c7 X1 o2
    have c5 := X2.out.cell 5; have c6 := X2.out.cell 6
    go_wp2_with fail
    refine HC.out.mono ?_; rintro e w3 ⟨⟨v3, rfl, o3⟩, t3, m3⟩
    obtain ⟨a3, cap3, rfl, _, _, _⟩ := o3.els
    rw [← HE.out] at t3
    have T2' := T2.out
    rw [← HE.out] at T2'
    have hb := T1.out.both M2.out T2' (mod_w m3 fun i e => .inl e) t3 HOK.out
    have T3 := Lib.hid hb.1
    have M3 := Lib.hid ((mod_any (S := TurnV b M b' base) M1.out).trans hb.2)
    have hbw : b' < w1.heap.size := T1.out.r.blt
    have O3 := Lib.hid (owns_modG O2.out m3 (fun i hi e => by omega))
    have HSM := Lib.hid (same10 _ _ _ _ w3 O3.out.sl o3.sl (by have := HFL.out; omega))
    clear t3 m3 hb o3 c5 c6 HA HC T2 T2'
    go_wp2_with fail
    refine HSM.out.mono ?_; rintro e w4 ⟨rfl, nn, rfl⟩
    have m4 := (Mod.refl (fun _ => False) w3).drewN nn
    have T4 := Lib.hid (T3.out.new m4)
    have M4 := Lib.hid (M3.out.trans (mod_any m4))
    clear m4
    go_wp2_with fail
    go_ret
    exact ⟨rfl, T4.out, M4.out⟩
  · have HE : Hid (k2 = ks) := by show _ = _; rw [HKK.out]; unfold tickK; rw [if_neg hno]
    rw [HE.out]
    go_enter Try.func22, Try.ntmps22
    go_upto_region 1 with fail
    generalize w.alloc (.cells #[.int .i64 d, .int .i64 id, .int .i64 ms, .int .i64 mu, .int .i64 mb, .int .i64 n, .int .i64 t, .int .u64 sd] TSp) = w1 at *
    obtain ⟨B, hB⟩ : ∃ B, B = w.heap.size := ⟨_, rfl⟩
    rw [← hB] at X1 HB ⊢
    clear hB
    have c0 := X1.out.cell 0; have c1 := X1.out.cell 1; have c2 := X1.out.cell 2; have c3 := X1.out.cell 3; have c4 := X1.out.cell 4; have c5 := X1.out.cell 5; have c6 := X1.out.cell 6; have c7 := X1.out.cell 7
    have HA := Lib.hid (memTickBad t n b w1 hno)
    have HC := Lib.hid (refVTickBad t n b' w1 hno)
    clear hno
    go_wp2_with fail
    refine HA.out.mono ?_; rintro e w2 ⟨rfl, rfl⟩
    go_wp2_with fail
    refine HC.out.mono ?_; rintro e w3 ⟨rfl, rfl⟩
    have HSM := Lib.hid (same10 (.slice none 0 0) (.slice none 0 0) [] 0 w1 (Sl.nil _ _) (Sl.nil _ _) (by decide))
    go_wp2_with fail
    refine HSM.out.mono ?_; rintro e w4 ⟨rfl, nn, rfl⟩
    have m4 := (Mod.refl (fun _ => False) w1).drewN nn
    have T4 := Lib.hid (T1.out.new m4)
    have M4 := Lib.hid (mod_any (S := TurnV b M b' base) (M1.out.trans m4))
    clear m4
    go_wp2_with fail
    go_ret
    exact ⟨rfl, T4.out, M4.out⟩

set_option maxRecDepth 100000 in
set_option maxHeartbeats 4000000 in
theorem step3 (s : Sp) (b M b' base : Nat) (S : Int × Rc) (most : Int) (ks : List (Int × Rc)) (w : World) (h : TwoV w b M b' base S most ks) (hm : most ≤ 64) (hd : s.d = 3) :
    Calls Try.prog 22 #[.pointer (some ⟨b, 0, none⟩), .pointer (some ⟨b', 0, none⟩), .agg (spC s)] w fun e w' => e = .returned (.bool true) ∧ TwoV w' b M b' base (stepS S s) most (stepK S most ks s) ∧ Mod (TurnV b M b' base) w w' := by
  have m1 := (Mod.refl (fun _ => False) w).alloc (.cells (spC s) TSp)
  have T1 := Lib.hid (h.new m1)
  have X1 := Lib.hid (Blk.new w (spC s) TSp)
  have HNE := Lib.hid h.ne
  have HOK := Lib.hid (h.ok.step S s)
  have hl64 := h.len hm
  have HM := Lib.hid hm
  have M1 := Lib.hid m1
  have HB : Hid (w.heap.size ≠ b ∧ w.heap.size ≠ M ∧ w.heap.size ≠ b' ∧ base ≤ w.heap.size) := by have := h.ne; have := h.t.lt; have := h.r.blt; show _ ∧ _ ∧ _ ∧ _; omega
  clear h m1 hm
  obtain ⟨d, ⟨id, ⟨ms, mu, mb⟩⟩, n, t, sd⟩ := s
  dsimp only [spC] at *
  obtain ⟨S2, hS2⟩ : ∃ x, x = stepS S ⟨d, (id, ⟨ms, mu, mb⟩), n, t, sd⟩ := ⟨_, rfl⟩
  obtain ⟨k2, hk2⟩ : ∃ x, x = stepK S most ks ⟨d, (id, ⟨ms, mu, mb⟩), n, t, sd⟩ := ⟨_, rfl⟩
  rw [← hS2, ← hk2]
  rw [← hk2] at HOK
  unfold stepS at hS2
  unfold stepK at hk2
  dsimp only at hS2 hk2
  have HS2 := Lib.hid hS2
  have HK2 := Lib.hid hk2
  clear hS2 hk2
  have e3 : (d == 3) = true := by simpa using hd
  have e2 : (d == 2) = false := by simp; omega
  have e1 : (d == 1) = false := by simp; omega
  have e0 : (d == 0) = false := by simp; omega
  have HD := Lib.hid (show ¬ d = 0 ∧ ¬ d = 1 ∧ ¬ d = 2 by omega)
  clear hd
  rw [show S2 = S by rw [HS2.out, if_neg HD.out.1], show k2 = ks by rw [HK2.out, if_neg HD.out.1, if_neg HD.out.2.1, if_neg HD.out.2.2]]
  go_enter Try.func22, Try.ntmps22
  go_upto_region 1 with fail
  generalize w.alloc (.cells #[.int .i64 d, .int .i64 id, .int .i64 ms, .int .i64 mu, .int .i64 mb, .int .i64 n, .int .i64 t, .int .u64 sd] TSp) = w1 at *
  obtain ⟨B, hB⟩ : ∃ B, B = w.heap.size := ⟨_, rfl⟩
  rw [← hB] at X1 HB ⊢
  clear hB
  have c0 := X1.out.cell 0; have c1 := X1.out.cell 1; have c2 := X1.out.cell 2; have c3 := X1.out.cell 3; have c4 := X1.out.cell 4; have c5 := X1.out.cell 5; have c6 := X1.out.cell 6; have c7 := X1.out.cell 7
  have hgl : (gosL S sd n ks).length ≤ 65 := by have := gosL_len (S := S) (seed := sd) (k := n) (ks := ks); omega
  have HGL := Lib.hid hgl
  have HA := Lib.hid (fun q => memGossip sd n b M S most ks (w1.drewN q) (T1.out.t.drewN q) (by omega) T1.out.ok.i64)
  clear hgl
  go_upto_region 16 with fail
  refine wp_regionO2 [0, 1, 2, 3, 4, 6, 7, 8, 9, 10, 5, 11, 12, 13] [(2, 3), (4, 3), (7, 3), (9, 3), (10, 4), (11, 4)] [] (by kernel_rfl) (by kernel_rfl) (by simp only [List.filterMap_cons, List.filterMap_nil, List.getElem?_cons_zero, List.getElem?_cons_succ]; exact rfl) ?_
  repeat (first | (refine reg_anyT (by rfl) (fun K hK => ?_); go_simp; refine hK _ _ ?_; clear hK K) | (refine reg_read (by rfl) (fun K hK => ?_); go_simp; refine hK _ _ ?_; clear hK K))
  refine reg_hold_v (by rfl) (by rfl) (.int .i64 n) (fun w' hw' => q_load _ _ _ rfl rfl Try.isAgg3 (hw'.cell c5)) ?_
  repeat (first | (refine reg_anyT (by rfl) (fun K hK => ?_); go_simp; refine hK _ _ ?_; clear hK K) | (refine reg_read (by rfl) (fun K hK => ?_); go_simp; refine hK _ _ ?_; clear hK K))
  refine reg_hold_v (by rfl) (by rfl) (.int .u64 sd) (fun w' hw' => q_load _ _ _ rfl rfl Try.isAgg45 (hw'.cell c7)) ?_
  repeat (first | (refine reg_anyT (by rfl) (fun K hK => ?_); go_simp; refine hK _ _ ?_; clear hK K) | (refine reg_read (by rfl) (fun K hK => ?_); go_simp; refine hK _ _ ?_; clear hK K))
  refine reg_hold_v (by rfl) (by rfl) (.int .i64 n) (fun w' hw' => q_load _ _ _ rfl rfl Try.isAgg3 (hw'.cell c5)) ?_
  repeat (first | (refine reg_anyT (by rfl) (fun K hK => ?_); go_simp; refine hK _ _ ?_; clear hK K) | (refine reg_read (by rfl) (fun K hK => ?_); go_simp; refine hK _ _ ?_; clear hK K))
  refine reg_hold_v (by rfl) (by rfl) (.int .u64 sd) (fun w' hw' => q_load _ _ _ rfl rfl Try.isAgg45 (hw'.cell c7)) ?_
  repeat (first | (refine reg_anyT (by rfl) (fun K hK => ?_); go_simp; refine hK _ _ ?_; clear hK K) | (refine reg_read (by rfl) (fun K hK => ?_); go_simp; refine hK _ _ ?_; clear hK K))
  refine reg_new (by rfl) (fun rn K hK => ?_); go_simp
  refine (HA.out rn).mono ?_; rintro e wA ⟨⟨v2, rfl, o2⟩, m2⟩
  refine hK _ _ ⟨m2.ex, ?_⟩; clear hK K
  have T2 := Lib.hid (T1.out.new m2.undrew)
  have M2 := Lib.hid (M1.out.trans m2.undrew)
  have O2 := Lib.hid o2
  have HC := Lib.hid (fun q => refVGossip sd n b' base S most ks (wA.drewN q) (T2.out.r.drewN q) T2.out.ok.rising (by omega) T2.out.ne.2.2.2.2)
  clear o2 m2 c0 c1 c2 c3 c4 c5 c6 c7 HA
  repeat (first | (refine reg_anyT (by rfl) (fun K hK => ?_); go_simp; refine hK _ _ ?_; clear hK K) | (refine reg_read (by rfl) (fun K hK => ?_); go_simp; refine hK _ _ ?_; clear hK K))
  refine reg_new (by rfl) (fun rn K hK => ?_); go_simp
  refine (HC.out rn).mono ?_; rintro e wB ⟨⟨v3, rfl, o3⟩, m3⟩
  refine hK _ _ ⟨m3.ex, ?_⟩; clear hK K
  have T3 := Lib.hid (T2.out.new m3.undrew)
  have M3 := Lib.hid (M2.out.trans m3.undrew)
  have HSM := Lib.hid (fun q => refSameL v2 v3 _ _ (gosL S sd n ks) (wB.drewN q) (owns_new O2.out (m3.undrew.drewN q)) (owns_new o3 ((Mod.refl (fun _ => False) wB).drewN q)) (by have := HGL.out; omega))
  clear o3 m3 HC
  repeat (first | (refine reg_anyT (by rfl) (fun K hK => ?_); go_simp; refine hK _ _ ?_; clear hK K) | (refine reg_read (by rfl) (fun K hK => ?_); go_simp; refine hK _ _ ?_; clear hK K))
  refine reg_eff (by rfl) (fun rn K hK => ?_); go_simp
  refine (HSM.out _).mono ?_; rintro e w' ⟨rfl, m4⟩
  refine hK _ _ ?_; clear hK K
  repeat (first | (refine reg_anyT (by rfl) (fun K hK => ?_); go_simp; refine hK _ _ ?_; clear hK K) | (refine reg_read (by rfl) (fun K hK => ?_); go_simp; refine hK _ _ ?_; clear hK K))
  refine reg_nil (fun nd => ?_)
  have T4 := Lib.hid (T3.out.new (m4.undrew.drewN nd))
  have M4 := Lib.hid (mod_any (S := TurnV b M b' base) (M3.out.trans (m4.undrew.drewN nd)))
  clear m4
  go_wp2_with fail
  go_ret
  exact ⟨rfl, T4.out, M4.out⟩

set_option maxRecDepth 100000 in
set_option maxHeartbeats 4000000 in
theorem step4 (s : Sp) (b M b' base : Nat) (S : Int × Rc) (most : Int) (ks : List (Int × Rc)) (w : World) (h : TwoV w b M b' base S most ks) (hm : most ≤ 64) (hd : ¬ (s.d = 0 ∨ s.d = 1 ∨ s.d = 2 ∨ s.d = 3)) :
    Calls Try.prog 22 #[.pointer (some ⟨b, 0, none⟩), .pointer (some ⟨b', 0, none⟩), .agg (spC s)] w fun e w' => e = .returned (.bool true) ∧ TwoV w' b M b' base (stepS S s) most (stepK S most ks s) ∧ Mod (TurnV b M b' base) w w' := by
  have m1 := (Mod.refl (fun _ => False) w).alloc (.cells (spC s) TSp)
  have T1 := Lib.hid (h.new m1)
  have X1 := Lib.hid (Blk.new w (spC s) TSp)
  have HNE := Lib.hid h.ne
  have HOK := Lib.hid (h.ok.step S s)
  have hl64 := h.len hm
  have HM := Lib.hid hm
  have M1 := Lib.hid m1
  have HB : Hid (w.heap.size ≠ b ∧ w.heap.size ≠ M ∧ w.heap.size ≠ b' ∧ base ≤ w.heap.size) := by have := h.ne; have := h.t.lt; have := h.r.blt; show _ ∧ _ ∧ _ ∧ _; omega
  clear h m1 hm
  obtain ⟨d, ⟨id, ⟨ms, mu, mb⟩⟩, n, t, sd⟩ := s
  dsimp only [spC] at *
  obtain ⟨S2, hS2⟩ : ∃ x, x = stepS S ⟨d, (id, ⟨ms, mu, mb⟩), n, t, sd⟩ := ⟨_, rfl⟩
  obtain ⟨k2, hk2⟩ : ∃ x, x = stepK S most ks ⟨d, (id, ⟨ms, mu, mb⟩), n, t, sd⟩ := ⟨_, rfl⟩
  rw [← hS2, ← hk2]
  rw [← hk2] at HOK
  unfold stepS at hS2
  unfold stepK at hk2
  dsimp only at hS2 hk2
  have HS2 := Lib.hid hS2
  have HK2 := Lib.hid hk2
  clear hS2 hk2
  have e3 : (d == 3) = false := by simp; omega
  have e2 : (d == 2) = false := by simp; omega
  have e1 : (d == 1) = false := by simp; omega
  have e0 : (d == 0) = false := by simp; omega
  have HD := Lib.hid (show ¬ d = 0 ∧ ¬ d = 1 ∧ ¬ d = 2 by omega)
  clear hd
  rw [show S2 = S by rw [HS2.out, if_neg HD.out.1], show k2 = ks by rw [HK2.out, if_neg HD.out.1, if_neg HD.out.2.1, if_neg HD.out.2.2]]
  go_enter Try.func22, Try.ntmps22
  go_upto_region 1 with fail
  generalize w.alloc (.cells #[.int .i64 d, .int .i64 id, .int .i64 ms, .int .i64 mu, .int .i64 mb, .int .i64 n, .int .i64 t, .int .u64 sd] TSp) = w1 at *
  obtain ⟨B, hB⟩ : ∃ B, B = w.heap.size := ⟨_, rfl⟩
  rw [← hB] at X1 HB ⊢
  clear hB
  have c0 := X1.out.cell 0; have c1 := X1.out.cell 1; have c2 := X1.out.cell 2; have c3 := X1.out.cell 3; have c4 := X1.out.cell 4; have c5 := X1.out.cell 5; have c6 := X1.out.cell 6; have c7 := X1.out.cell 7
  have HA := Lib.hid (memProbe sd b M S most ks w1 T1.out.t (by omega))
  obtain ⟨R1, R2, hR⟩ : ∃ R1 R2, (R1, R2) = probeR sd ks := ⟨_, _, rfl⟩
  rw [← hR] at HA
  dsimp only at HA
  have HR := Lib.hid hR
  clear hR
  go_wp2_with fail
  refine HA.out.mono ?_; rintro e w2 ⟨rfl, m2⟩
  have T2 := Lib.hid (T1.out.new m2)
  have M2 := Lib.hid (M1.out.trans m2)
  have X2 := Lib.hid (X1.out.mod m2 (fun h => h))
  have HC := Lib.hid (refVProbe sd b' base S most ks w2 T2.out.r (by omega))
  rw [← HR.out] at HC
  dsimp only at HC
  clear m2 c0 c1 c2 c3 c4 c5 c6 c7 X1
  have c7 := X2.out.cell 7
  go_wp2_with fail
  refine HC.out.mono ?_; rintro e w3 ⟨rfl, m3⟩
  have T3 := Lib.hid (T2.out.new m3)
  have M3 := Lib.hid (mod_any (S := TurnV b M b' base) (M2.out.trans m3))
  clear m3 c7 HA HC
  go_wp2_with fail
  all_goals first
    | (go_ret; exact ⟨by simp, T3.out, M3.out⟩)
    | skip

theorem stepBoth (s : Sp) (b M b' base : Nat) (S : Int × Rc) (most : Int) (ks : List (Int × Rc)) (w : World) (h : TwoV w b M b' base S most ks) (hm : most ≤ 64) (hI : I64 s.n) :
    Calls Try.prog 22 #[.pointer (some ⟨b, 0, none⟩), .pointer (some ⟨b', 0, none⟩), .agg (spC s)] w fun e w' => e = .returned (.bool true) ∧ TwoV w' b M b' base (stepS S s) most (stepK S most ks s) ∧ Mod (TurnV b M b' base) w w' := by
  by_cases h0 : s.d = 0
  · exact step0 s b M b' base S most ks w h hm h0
  · by_cases h1 : s.d = 1
    · exact step1 s b M b' base S most ks w h hm hI h1
    · by_cases h2 : s.d = 2
      · exact step2 s b M b' base S most ks w h hm h2
      · by_cases h3 : s.d = 3
        · exact step3 s b M b' base S most ks w h hm h3
        · exact step4 s b M b' base S most ks w h hm (by omega)
end Go.Proofs.Ytagiodagbfahpaa
