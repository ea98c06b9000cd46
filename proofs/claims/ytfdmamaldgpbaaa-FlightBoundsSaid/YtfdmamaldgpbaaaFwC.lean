/- The laws on flight: a step that drops, or lets go what is late, at both; any step; no condition. -/
import Derived.Test.YtfdmamaldgpbaaaFwB
namespace Go.Proofs.Ytfdmamaldgpbaaa
open Go Go.RowKit

set_option maxRecDepth 100000 in
set_option maxHeartbeats 2000000 in
theorem stepDrop (s : St) (hd : s.d = 2) (b M : Nat) (most each pat : Int) (ks : List (Int × Rq)) (b' base : Nat) (most' each' pat' : Int) (ks' : List (Int × Rq)) (w : World) (h : Both w b M most each pat ks b' base most' each' pat' ks') :
    Calls Try.prog 11 #[.pointer (some ⟨b, 0, none⟩), .pointer (some ⟨b', 0, none⟩), stV s] w (StepP (SameT most each pat ks most' each' pat' ks') b M most each pat ks b' base most' each' pat' ks' s w) := by
  obtain ⟨d, p, k, t⟩ := s
  simp only at hd
  subst hd
  have hE : ∀ m e q l, stepK m e q l ⟨2, p, k, t⟩ = l.filter fun x => !(x.2.p == p) := fun _ _ _ _ => rfl
  unfold StepP stV
  rw [hE, hE]
  dsimp only
  have m1 : Mod (fun _ => False) w (w.alloc (.cells #[.int .i64 2, .int .i64 p, .int .i64 k, .int .i64 t] 34)) := (Mod.refl _ w).alloc _
  have H1 := Lib.hid (h.new m1)
  have X1 := Lib.hid (Blk.new w #[.int .i64 2, .int .i64 p, .int .i64 k, .int .i64 t] 34)
  have hl := h.len
  obtain ⟨w1, hw1⟩ : ∃ w1, w1 = w.alloc (.cells #[.int .i64 2, .int .i64 p, .int .i64 k, .int .i64 t] 34) := ⟨_, rfl⟩
  have hx1 : M < w.heap.size ∧ b' < w.heap.size := ⟨h.two.t.lt.2, by have := h.two.r.lt; have := h.two.n5; omega⟩
  rw [← hw1] at H1 X1 m1
  obtain ⟨B, hB⟩ : ∃ B, B = w.heap.size := ⟨_, rfl⟩
  rw [← hB] at X1 hx1
  have c0 := X1.out.cell 0; have c1 := X1.out.cell 1; have c2 := X1.out.cell 2; have c3 := X1.out.cell 3
  have M1 := Lib.hid m1
  have HW := Lib.hid hw1
  have HB := Lib.hid hB
  obtain ⟨l1, hl1⟩ : ∃ l1, l1 = ks.filter fun x => x.2.p == p := ⟨_, rfl⟩
  obtain ⟨l2, hl2⟩ : ∃ l2, l2 = ks'.filter fun x => x.2.p == p := ⟨_, rfl⟩
  have L1 := Lib.hid hl1; have L2 := Lib.hid hl2
  have n1 : l1.length ≤ 256 := by rw [hl1]; have := List.length_filter_le (fun x => x.2.p == p) ks; omega
  have n2 : l2.length ≤ 256 := by rw [hl2]; have := List.length_filter_le (fun x => x.2.p == p) ks'; omega
  clear h hE m1 hw1 hB hl1 hl2
  go_enter Try.func11, Try.ntmps11
  go_wp2_with fail
  rw [← HW.out, ← HB.out]
  obtain ⟨S, hS⟩ : ∃ S : World → Prop, S = fun w' => w'.cell? ⟨B, 1, none⟩ = some (.int .i64 p) := ⟨_, rfl⟩
  refine wp_regionS [(2, 0), (6, 0)] [] S (by kernel_rfl) (by kernel_rfl) (by subst hS; intro n; exact c1) ?_
  repeat (first | (refine reg_anyT (by rfl) (fun K hK => ?_); go_simp; refine hK _ _ ?_; clear hK K) | (refine reg_read (by rfl) (fun K hK => ?_); go_simp; refine hK _ _ ?_; clear hK K))
  refine reg_loadS (by rfl) (by rfl) (.int .i64 p) _ _ _ rfl rfl Try.isAgg3 (by subst hS; exact fun _ h => h) ?_
  repeat (first | (refine reg_anyT (by rfl) (fun K hK => ?_); go_simp; refine hK _ _ ?_; clear hK K) | (refine reg_read (by rfl) (fun K hK => ?_); go_simp; refine hK _ _ ?_; clear hK K))
  refine reg_effS (by rfl) (fun rn K hK => ?_); go_simp
  refine (flDrop p b M most each pat ks (w1.drewN rn) (H1.out.two.t.drewN rn) (by omega) H1.out.ok.i64).mono ?_; rintro e w2 ⟨⟨v, rfl, o1⟩, t2, m2⟩
  rw [← L1.out] at o1
  have O1 := Lib.hid o1
  have m2' := m2.undrew
  have T2 := Lib.hid (H1.out.two.tmod m2' t2)
  have M2 := Lib.hid m2'
  have X2 := Lib.hid (X1.out.mod m2' (by omega))
  refine hK _ _ ⟨fun m => by subst hS; exact X2.out.cell 1, ?_⟩; clear hK K o1 t2 m2 m2'
  repeat (first | (refine reg_anyT (by rfl) (fun K hK => ?_); go_simp; refine hK _ _ ?_; clear hK K) | (refine reg_read (by rfl) (fun K hK => ?_); go_simp; refine hK _ _ ?_; clear hK K))
  refine reg_loadS (by rfl) (by rfl) (.int .i64 p) _ _ _ rfl rfl Try.isAgg3 (by subst hS; exact fun _ h => h) ?_
  repeat (first | (refine reg_anyT (by rfl) (fun K hK => ?_); go_simp; refine hK _ _ ?_; clear hK K) | (refine reg_read (by rfl) (fun K hK => ?_); go_simp; refine hK _ _ ?_; clear hK K))
  refine reg_effS (by rfl) (fun rn2 K hK => ?_); go_simp
  refine (refDrop p b' base most' each' pat' ks' (w2.drewN rn2) (T2.out.r.drewN rn2) (by omega) T2.out.n5).mono ?_; rintro e w3 ⟨⟨v', rfl, o2⟩, r3, m3⟩
  rw [← L2.out] at o2
  have m3' := m3.undrew
  have T3 := Lib.hid (T2.out.rmod m3' r3)
  have M3 := Lib.hid m3'
  have X3 := Lib.hid (X2.out.mod m3' (by omega))
  have O1' := owns_mod O1.out m3' (fun i hi e => by have hz : (w1.drewN rn).heap.size = w1.heap.size := rfl; have := X1.out.lt; omega)
  obtain ⟨a1, k1, rfl, _, e1, _⟩ := O1'.els
  obtain ⟨a2, k2, rfl, _, e2, _⟩ := o2.els
  have E1 := Lib.hid e1; have E2 := Lib.hid e2
  refine hK _ _ ⟨fun m => by subst hS; exact X3.out.cell 1, ?_⟩; clear hK K o2 r3 m3 m3' O1' e1 e2 O1
  repeat (first | (refine reg_anyT (by rfl) (fun K hK => ?_); go_simp; refine hK _ _ ?_; clear hK K) | (refine reg_read (by rfl) (fun K hK => ?_); go_simp; refine hK _ _ ?_; clear hK K))
  refine reg_effS (by rfl) (fun rn3 K hK => ?_); go_simp
  refine (refSame a1 a2 k1 k2 l1 l2 (w3.drewN rn3) (E1.out.new ((Mod.refl _ w3).drewN rn3)) (E2.out.new ((Mod.refl _ w3).drewN rn3)) (by omega) (by omega)).mono ?_; rintro e w4 ⟨⟨R, rfl, hR⟩, m4⟩
  have m4' := m4.undrew
  have X4 := Lib.hid (X3.out.mod m4' (fun h => h))
  have T4 := Lib.hid (T3.out.new m4')
  refine hK _ _ ⟨fun m => by subst hS; exact X4.out.cell 1, ?_⟩; clear hK K m4
  repeat (first | (refine reg_anyT (by rfl) (fun K hK => ?_); go_simp; refine hK _ _ ?_; clear hK K) | (refine reg_read (by rfl) (fun K hK => ?_); go_simp; refine hK _ _ ?_; clear hK K))
  refine reg_nil (fun nd => ?_)
  go_wp2_with fail
  go_ret
  refine ⟨⟨R, rfl, fun ⟨h1, h2, h3, h4⟩ => hR (by rw [L1.out, L2.out, h4])⟩, ⟨T4.out.new ((Mod.refl _ w4).drewN nd), H1.out.ok.filter _, H1.out.ok'.filter _, H1.out.small, H1.out.small'⟩, ?_⟩
  exact ((((M1.out.mono (fun _ _ h => h.elim)).trans (M2.out.mono (fun _ _ h => .inl h))).trans (M3.out.mono (fun _ _ h => .inr h))).trans (m4'.mono (fun _ _ h => h.elim))).drewN nd

set_option maxRecDepth 100000 in
set_option maxHeartbeats 2000000 in
theorem stepLate (s : St) (hd : s.d ≠ 0 ∧ s.d ≠ 1 ∧ s.d ≠ 2) (b M : Nat) (most each pat : Int) (ks : List (Int × Rq)) (b' base : Nat) (most' each' pat' : Int) (ks' : List (Int × Rq)) (w : World) (h : Both w b M most each pat ks b' base most' each' pat' ks') :
    Calls Try.prog 11 #[.pointer (some ⟨b, 0, none⟩), .pointer (some ⟨b', 0, none⟩), stV s] w (StepP (SameT most each pat ks most' each' pat' ks') b M most each pat ks b' base most' each' pat' ks' s w) := by
  obtain ⟨d, p, k, t⟩ := s
  simp only at hd
  have hE : ∀ m e q l, stepK m e q l ⟨d, p, k, t⟩ = if mom t then l.filter fun x => !decide (q ≤ t - x.2.t) else l := fun _ _ _ _ => by
    unfold stepK; simp only; rw [if_neg hd.1, if_neg hd.2.1, if_neg hd.2.2]
  unfold StepP stV
  rw [hE, hE]
  dsimp only
  have d0 : (d == 0) = false := by simpa using hd.1
  have d1 : (d == 1) = false := by simpa using hd.2.1
  have d2 : (d == 2) = false := by simpa using hd.2.2
  have m1 : Mod (fun _ => False) w (w.alloc (.cells #[.int .i64 d, .int .i64 p, .int .i64 k, .int .i64 t] 34)) := (Mod.refl _ w).alloc _
  have H1 := Lib.hid (h.new m1)
  have X1 := Lib.hid (Blk.new w #[.int .i64 d, .int .i64 p, .int .i64 k, .int .i64 t] 34)
  have hl := h.len
  obtain ⟨w1, hw1⟩ : ∃ w1, w1 = w.alloc (.cells #[.int .i64 d, .int .i64 p, .int .i64 k, .int .i64 t] 34) := ⟨_, rfl⟩
  have hx1 : M < w.heap.size ∧ b' < w.heap.size := ⟨h.two.t.lt.2, by have := h.two.r.lt; have := h.two.n5; omega⟩
  rw [← hw1] at H1 X1 m1
  obtain ⟨B, hB⟩ : ∃ B, B = w.heap.size := ⟨_, rfl⟩
  rw [← hB] at X1 hx1
  have c0 := X1.out.cell 0; have c1 := X1.out.cell 1; have c2 := X1.out.cell 2; have c3 := X1.out.cell 3
  have M1 := Lib.hid m1
  have HW := Lib.hid hw1
  have HB := Lib.hid hB
  clear h hE m1 hw1 hB hd
  by_cases hmo : mom t
  · rw [if_pos hmo, if_pos hmo]
    obtain ⟨l1, hl1⟩ : ∃ l1, l1 = ks.filter fun x => decide (pat ≤ t - x.2.t) := ⟨_, rfl⟩
    obtain ⟨l2, hl2⟩ : ∃ l2, l2 = ks'.filter fun x => decide (pat' ≤ t - x.2.t) := ⟨_, rfl⟩
    have L1 := Lib.hid hl1; have L2 := Lib.hid hl2
    have n1 : l1.length ≤ 256 := by rw [hl1]; have := List.length_filter_le (fun x => decide (pat ≤ t - x.2.t)) ks; omega
    have n2 : l2.length ≤ 256 := by rw [hl2]; have := List.length_filter_le (fun x => decide (pat' ≤ t - x.2.t)) ks'; omega
    have HMO := Lib.hid hmo
    clear hl1 hl2 hmo
    go_enter Try.func11, Try.ntmps11
    go_wp2_with fail
    rw [← HW.out, ← HB.out]
    refine (flLate t b M most each pat ks w1 H1.out.two.t (by omega) H1.out.ok.i64 HMO.out H1.out.ok.tm).mono ?_; rintro e w2 ⟨⟨v, rfl, o1⟩, t2, m2⟩
    rw [← L1.out] at o1
    have O1 := Lib.hid o1
    have T2 := Lib.hid (H1.out.two.tmod m2 t2)
    have M2 := Lib.hid m2
    have X2 := Lib.hid (X1.out.mod m2 (by omega))
    have e0 := X2.out.cell 0; have e1 := X2.out.cell 1; have e2 := X2.out.cell 2; have e3 := X2.out.cell 3
    clear o1 t2 m2
    go_wp2_with fail
    refine (refLate t b' base most' each' pat' ks' w2 T2.out.r (by omega) T2.out.n5 HMO.out H1.out.ok'.tm).mono ?_; rintro e w3 ⟨⟨v', rfl, o2⟩, r3, m3⟩
    rw [← L2.out] at o2
    have T3 := Lib.hid (T2.out.rmod m3 r3)
    have M3 := Lib.hid m3
    have O1' := owns_mod O1.out m3 (fun i hi e => by have := X1.out.lt; omega)
    obtain ⟨a1, k1, rfl, _, e1, _⟩ := O1'.els
    obtain ⟨a2, k2, rfl, _, e2, _⟩ := o2.els
    have E1 := Lib.hid e1; have E2 := Lib.hid e2
    clear o2 r3 m3 O1' O1 e1 e2
    go_wp2_with fail
    refine (refSame a1 a2 k1 k2 l1 l2 w3 E1.out E2.out (by omega) (by omega)).mono ?_; rintro e w4 ⟨⟨R, rfl, hR⟩, m4⟩
    have HRR : Hid (SameT most each pat ks most' each' pat' ks' → R = true) := fun ⟨h1, h2, h3, h4⟩ => hR (by rw [L1.out, L2.out, h3, h4])
    clear hR
    cases R
    all_goals go_wp2_with fail
    all_goals go_ret
    all_goals refine ⟨⟨_, rfl, by first | exact HRR.out | exact fun _ => rfl⟩, ⟨T3.out.new m4, H1.out.ok.filter _, H1.out.ok'.filter _, H1.out.small, H1.out.small'⟩, ?_⟩
    all_goals exact (((M1.out.mono (fun _ _ h => h.elim)).trans (M2.out.mono (fun _ _ h => .inl h))).trans (M3.out.mono (fun _ _ h => .inr h))).trans (m4.mono (fun _ _ h => h.elim))
  · rw [if_neg hmo, if_neg hmo]
    have HMO := Lib.hid hmo
    have enil : ∀ w : World, Els w none 3 ([] : List (Int × Rq)).length (rqL []) := fun w i hi => absurd hi (Nat.not_lt_zero _)
    clear hmo
    go_enter Try.func11, Try.ntmps11
    go_wp2_with fail
    rw [← HW.out, ← HB.out]
    refine (flLateBad t b w1 HMO.out).mono ?_; rintro e w2 ⟨rfl, m2⟩
    have X2 := Lib.hid (X1.out.mod m2 (fun h => h))
    have e0 := X2.out.cell 0; have e1 := X2.out.cell 1; have e2 := X2.out.cell 2; have e3 := X2.out.cell 3
    go_wp2_with fail
    refine (refLateBad t b' w2 HMO.out).mono ?_; rintro e w3 ⟨rfl, rfl⟩
    go_wp2_with fail
    refine (refSame none none 0 0 [] [] w2 (enil _) (enil _) (by decide) (by decide)).mono ?_; rintro e w4 ⟨⟨R, rfl, hR⟩, m4⟩
    have hRt : R = true := hR rfl
    subst hRt
    go_wp2_with fail
    go_ret
    exact ⟨⟨true, rfl, fun _ => rfl⟩, (H1.out.new m2).new m4, ((M1.out.trans m2).trans m4).mono (fun _ _ h => h.elim)⟩

theorem flStep (s : St) (b M : Nat) (most each pat : Int) (ks : List (Int × Rq)) (b' base : Nat) (most' each' pat' : Int) (ks' : List (Int × Rq)) (w : World) (h : Both w b M most each pat ks b' base most' each' pat' ks') (hk : I64 s.k) :
    Calls Try.prog 11 #[.pointer (some ⟨b, 0, none⟩), .pointer (some ⟨b', 0, none⟩), stV s] w (StepP (SameT most each pat ks most' each' pat' ks') b M most each pat ks b' base most' each' pat' ks' s w) := by
  by_cases h0 : s.d = 0
  · exact stepAsk s h0 b M most each pat ks b' base most' each' pat' ks' w h hk
  · by_cases h1 : s.d = 1
    · exact stepDone s h1 b M most each pat ks b' base most' each' pat' ks' w h hk
    · by_cases h2 : s.d = 2
      · exact stepDrop s h2 b M most each pat ks b' base most' each' pat' ks' w h
      · exact stepLate s ⟨h0, h1, h2⟩ b M most each pat ks b' base most' each' pat' ks' w h
end Go.Proofs.Ytfdmamaldgpbaaa
