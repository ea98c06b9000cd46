/- The laws on member: a step at both views: they tell the same; no condition. -/
import Derived.Test.YtagiodagbfahpaaSnA
namespace Go.Proofs.Ytagiodagbfahpaa
open Go Go.RowKit

abbrev TSp : TypeId := 54
abbrev spC (s : Sp) : Array Value := #[.int .i64 s.d, .int .i64 s.m.1, .int .i64 s.m.2.s, .int .i64 s.m.2.u, .int .i64 s.m.2.b, .int .i64 s.n, .int .i64 s.t, .int .u64 s.k]
theorem mod_w {P Q : Nat → Prop} {w w' : World} (h : Mod P w w') (hq : ∀ i, P i → Q i) : Mod Q w w' := h.mono fun i _ e => hq i e

set_option maxRecDepth 100000 in
set_option maxHeartbeats 4000000 in
theorem step0 (s : Sp) (b M b' base : Nat) (S : Int × Rc) (most : Int) (ks : List (Int × Rc)) (w : World) (h : TwoV w b M b' base S most ks) (hm : most ≤ 64) (hd : s.d = 0) :
    Calls Try.prog 22 #[.pointer (some ⟨b, 0, none⟩), .pointer (some ⟨b', 0, none⟩), .agg (spC s)] w fun e w' => e = .returned (.bool true) ∧ TwoV w' b M b' base (stepS S s) most (stepK S most ks s) ∧ Mod (TurnV b M b' base) w w' := by
  have m1 := (Mod.refl (fun _ => False) w).alloc (.cells (spC s) TSp)
  have T1 := Lib.hid (h.new m1)
  have X1 := Lib.hid (Blk.new w (spC s) TSp)
  have HNE := Lib.hid h.ne
  have HOK := Lib.hid (h.ok.step S s)
  have hl64 := h.len hm
  have HM := Lib.hid hm
  have M1 := Lib.hid m1
  have HB : Hid (w.heap.size ≠ b ∧ w.heap.size ≠ M ∧ w.heap.size ≠ b' ∧ base ≤ w.heap.size) := by have := h.ne; have := h.t.lt; have := h.r.blt; show _ ∧ _ ∧ _ ∧ _; omega
  clear h m1 hm
  obtain ⟨d, ⟨id, ⟨ms, mu, mb⟩⟩, n, t, sd⟩ := s
  dsimp only [spC] at *
  obtain ⟨S2, hS2⟩ : ∃ x, x = stepS S ⟨d, (id, ⟨ms, mu, mb⟩), n, t, sd⟩ := ⟨_, rfl⟩
  obtain ⟨k2, hk2⟩ : ∃ x, x = stepK S most ks ⟨d, (id, ⟨ms, mu, mb⟩), n, t, sd⟩ := ⟨_, rfl⟩
  rw [← hS2, ← hk2]
  rw [← hk2] at HOK
  unfold stepS at hS2
  unfold stepK at hk2
  dsimp only at hS2 hk2
  have HS2 := Lib.hid hS2
  have HK2 := Lib.hid hk2
  clear hS2 hk2
  have e0 : (d == 0) = true := by simpa using hd
  have HD := Lib.hid hd
  clear hd
  go_enter Try.func22, Try.ntmps22
  go_upto_region 1 with fail
  generalize w.alloc (.cells #[.int .i64 d, .int .i64 id, .int .i64 ms, .int .i64 mu, .int .i64 mb, .int .i64 n, .int .i64 t, .int .u64 sd] TSp) = w1 at *
  obtain ⟨B, hB⟩ : ∃ B, B = w.heap.size := ⟨_, rfl⟩
  rw [← hB] at X1 HB ⊢
  clear hB
  have c0 := X1.out.cell 0; have c1 := X1.out.cell 1; have c2 := X1.out.cell 2; have c3 := X1.out.cell 3; have c4 := X1.out.cell 4; have c5 := X1.out.cell 5; have c6 := X1.out.cell 6; have c7 := X1.out.cell 7
  have HA := Lib.hid (memHear (id, ⟨ms, mu, mb⟩) t b M S most ks w1 T1.out.t T1.out.ok HM.out)
  obtain ⟨R1, R2, hR⟩ : ∃ R1 R2, (R1, R2) = hearB S ks (id, ⟨ms, mu, mb⟩) t := ⟨_, _, rfl⟩
  rw [← hR] at HA
  unfold rcv at HA
  dsimp only at HA
  have HR := Lib.hid hR
  clear hR
  go_wp2_with fail
  refine HA.out.mono ?_; rintro e w2 ⟨rfl, t2, m2⟩
  have r2 := T1.out.mid m2
  have X2 := Lib.hid (X1.out.mod m2 (by have := HB.out; omega))
  have HC := Lib.hid (refVHear (id, ⟨ms, mu, mb⟩) t b' base S most ks w2 r2.1 T1.out.ok HM.out r2.2)
  rw [← HR.out] at HC
  unfold rcv at HC
  dsimp only at HC
  have T2 := Lib.hid t2
  have M2 := Lib.hid m2
  clear t2 m2 r2 c0 c1 c2 c3 c4 c5 c6 c7 X1
  have c1 := X2.out.cell 1; have c2 := X2.out.cell 2; have c3 := X2.out.cell 3; have c4 := X2.out.cell 4; have c6 := X2.out.cell 6
  go_wp2_with fail
  refine HC.out.mono ?_; rintro e w3 ⟨rfl, t3, m3⟩
  have hb := T1.out.both M2.out T2.out (mod_w m3 fun i e => .inl e) t3 (by have := HOK.out; rw [HK2.out] at this; rwa [if_pos HD.out] at this)
  have hS : S2 = hearSelf S (id, ⟨ms, mu, mb⟩) t := by rw [HS2.out, if_pos HD.out]
  have hK : k2 = hearK S most ks (id, ⟨ms, mu, mb⟩) t := by rw [HK2.out, if_pos HD.out]
  rw [← hS, ← hK] at hb
  have T3 := Lib.hid hb.1
  have M3 := Lib.hid ((mod_any (S := TurnV b M b' base) M1.out).trans hb.2)
  clear t3 m3 hb hS hK c1 c2 c3 c4 c6 HA HC T2
  go_wp2_with fail
  all_goals first
    | (go_ret; exact ⟨by simp, T3.out, M3.out⟩)
    | skip

set_option maxRecDepth 100000 in
set_option maxHeartbeats 4000000 in
theorem step1 (s : Sp) (b M b' base : Nat) (S : Int × Rc) (most : Int) (ks : List (Int × Rc)) (w : World) (h : TwoV w b M b' base S most ks) (hm : most ≤ 64) (hI : I64 s.n) (hd : s.d = 1) :
    Calls Try.prog 22 #[.pointer (some ⟨b, 0, none⟩), .pointer (some ⟨b', 0, none⟩), .agg (spC s)] w fun e w' => e = .returned (.bool true) ∧ TwoV w' b M b' base (stepS S s) most (stepK S most ks s) ∧ Mod (TurnV b M b' base) w w' := by
  have m1 := (Mod.refl (fun _ => False) w).alloc (.cells (spC s) TSp)
  have T1 := Lib.hid (h.new m1)
  have X1 := Lib.hid (Blk.new w (spC s) TSp)
  have HNE := Lib.hid h.ne
  have HOK := Lib.hid (h.ok.step S s)
  have hl64 := h.len hm
  have HM := Lib.hid hm
  have M1 := Lib.hid m1
  have HB : Hid (w.heap.size ≠ b ∧ w.heap.size ≠ M ∧ w.heap.size ≠ b' ∧ base ≤ w.heap.size) := by have := h.ne; have := h.t.lt; have := h.r.blt; show _ ∧ _ ∧ _ ∧ _; omega
  clear h m1 hm
  obtain ⟨d, ⟨id, ⟨ms, mu, mb⟩⟩, n, t, sd⟩ := s
  dsimp only [spC] at *
  obtain ⟨S2, hS2⟩ : ∃ x, x = stepS S ⟨d, (id, ⟨ms, mu, mb⟩), n, t, sd⟩ := ⟨_, rfl⟩
  obtain ⟨k2, hk2⟩ : ∃ x, x = stepK S most ks ⟨d, (id, ⟨ms, mu, mb⟩), n, t, sd⟩ := ⟨_, rfl⟩
  rw [← hS2, ← hk2]
  rw [← hk2] at HOK
  unfold stepS at hS2
  unfold stepK at hk2
  dsimp only at hS2 hk2
  have HS2 := Lib.hid hS2
  have HK2 := Lib.hid hk2
  clear hS2 hk2
  have e1 : (d == 1) = true := by simpa using hd
  have e0 : (d == 0) = false := by simp; omega
  have HD := Lib.hid (show ¬ d = 0 ∧ d = 1 by omega)
  clear hd
  have HI := Lib.hid hI
  clear hI
  go_enter Try.func22, Try.ntmps22
  go_upto_region 1 with fail
  generalize w.alloc (.cells #[.int .i64 d, .int .i64 id, .int .i64 ms, .int .i64 mu, .int .i64 mb, .int .i64 n, .int .i64 t, .int .u64 sd] TSp) = w1 at *
  obtain ⟨B, hB⟩ : ∃ B, B = w.heap.size := ⟨_, rfl⟩
  rw [← hB] at X1 HB ⊢
  clear hB
  have c0 := X1.out.cell 0; have c1 := X1.out.cell 1; have c2 := X1.out.cell 2; have c3 := X1.out.cell 3; have c4 := X1.out.cell 4; have c5 := X1.out.cell 5; have c6 := X1.out.cell 6; have c7 := X1.out.cell 7
  have HA := Lib.hid (memFail n t b M S most ks w1 T1.out.t HI.out (by omega))
  obtain ⟨R1, R2, hR⟩ : ∃ R1 R2, (R1, R2) = failR ks n t := ⟨_, _, rfl⟩
  rw [← hR] at HA
  dsimp only at HA
  have HR := Lib.hid hR
  clear hR
  go_wp2_with fail
  refine HA.out.mono ?_; rintro e w2 ⟨rfl, t2, m2⟩
  have m2' := mod_w (Q := fun i => i = b ∨ i = M) m2 fun i e => .inr e
  have r2 := T1.out.mid m2'
  have X2 := Lib.hid (X1.out.mod m2' (by have := HB.out; omega))
  have HC := Lib.hid (refVFail n t b' base S most ks w2 r2.1 T1.out.ok.rising (by omega))
  rw [← HR.out] at HC
  dsimp only at HC
  have T2 := Lib.hid t2
  have M2 := Lib.hid m2'
  clear t2 m2 m2' r2 c0 c1 c2 c3 c4 c5 c6 c7 X1
  have c5 := X2.out.cell 5; have c6 := X2.out.cell 6
  go_wp2_with fail
  refine HC.out.mono ?_; rintro e w3 ⟨rfl, t3, m3⟩
  have hb := T1.out.both M2.out T2.out (mod_w m3 fun i e => .inr e) t3 (by have := HOK.out; rw [HK2.out] at this; rwa [if_neg HD.out.1, if_pos HD.out.2] at this)
  have hS : S2 = S := by rw [HS2.out, if_neg HD.out.1]
  have hK : k2 = failK ks n t := by rw [HK2.out, if_neg HD.out.1, if_pos HD.out.2]
  rw [← hK] at hb
  have T3 := Lib.hid hb.1
  have M3 := Lib.hid ((mod_any (S := TurnV b M b' base) M1.out).trans hb.2)
  rw [← hS] at T3
  clear t3 m3 hb hS hK c5 c6 HA HC T2
  go_wp2_with fail
  all_goals first
    | (go_ret; exact ⟨by simp, T3.out, M3.out⟩)
    | skip
end Go.Proofs.Ytagiodagbfahpaa
