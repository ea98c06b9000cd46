/- The laws on rarest: a step at both boards; no condition but the table. -/
import Derived.Test.YtegmgflplhpacaaDoorRcB
namespace Go.Proofs.YtegmgflplhpacaaDoor
open Go Go.RowKit

/-- A step. -/
structure Sb where
  d : Int
  p : Int
  n : Int
  a : Option Addr
  len : Nat
  cap : Nat
  bs : List Nat
  z : Int
instance : Inhabited Sb := ⟨⟨0, 0, 0, none, 0, 0, [], 0⟩⟩
def spB (s : Sb) : Array Value := #[.int .i64 s.d, .int .i64 s.p, .int .i64 s.n, .slice s.a s.len s.cap, .int .u64 s.z]
/-- .. whose bytes lie there. -/
structure OkSb (w : World) (s : Sb) : Prop where
  sl : Sl w (.slice s.a s.len s.cap) 1 s.len (byts s.bs)
  by8 : ∀ x ∈ s.bs, x < 256
  i : I64 s.p
theorem OkSb.new {w w' : World} {s : Sb} (h : OkSb w s) (hm : Mod (fun _ => False) w w') : OkSb w' s := ⟨h.sl.mod hm (fun _ _ _ _ h => h), h.by8, h.i⟩
def stepA (n : Nat) (most : Int) (L : LB) (s : Sb) : LB := if s.d = 0 then (setA n most L s.p (setsX s.n s.bs)).2 else if s.d = 1 then (addA n L s.p s.n).2 else if s.d = 2 then (goneA L s.p).2 else L
theorem OkB.step {n : Nat} {most : Int} {L : LB} (h : OkB most L) (s : Sb) : OkB most (stepA n most L s) := by
  unfold stepA
  split
  · exact h.set _ _
  · split
    · exact h.add _ _
    · split
      · exact h.gone _
      · exact h
abbrev TSt : TypeId := 45

set_option maxRecDepth 100000 in
set_option maxHeartbeats 4000000 in
theorem step0 (s : Sb) (B0 b M g : Nat) (ks : List (Int × Ow)) (b' base : Nat) (ks' : List (Int × Rp)) (n : Nat) (most : Int) (L : LB) (w : World) (h : TwoB w B0 b M g ks b' base ks' n most L) (ho : OkSb w s) (hd : s.d = 0) :
    Calls Tryd.prog 18 #[.pointer (some ⟨b, 0, none⟩), .pointer (some ⟨b', 0, none⟩), .agg (spB s)] w fun e w' => e = .returned (.bool true) ∧ TwoP w' B0 b b' n most (stepA n most L s) ∧ Mod (fun i => B0 ≤ i) w w' := by
  have m1 := (Mod.refl (fun _ => False) w).alloc (.cells (spB s) TSt)
  have T1 := Lib.hid (h.new m1)
  have O1 := Lib.hid (ho.new m1)
  have X1 := Lib.hid (Blk.new w (spB s) TSt)
  have HOK := Lib.hid (h.ok.step (n := n) s)
  have M1 := Lib.hid (m1.mono (S' := fun i => B0 ≤ i) fun _ _ e => e.elim)
  have HB : Hid (∀ i, BDb b M g ks i ∨ RDb w b' ks' i → i < w.heap.size) := fun i hi => hi.elim h.bd.lt h.rd.low
  have HR : Hid (∀ i, RDb (w.alloc (.cells (spB s) TSt)) b' ks' i → RDb w b' ks' i) := (h.rd.modB m1 fun _ _ h => h).2
  have HB0 := Lib.hid h.B0
  clear h m1 ho
  obtain ⟨d, p, n', a, len, cap, bs, z⟩ := s
  obtain ⟨L1, hL1⟩ : ∃ x, x = stepA n most L ⟨d, p, n', a, len, cap, bs, z⟩ := ⟨_, rfl⟩
  rw [← hL1] at HOK ⊢
  unfold stepA at hL1
  dsimp only [spB] at *
  have HL1 := Lib.hid hL1
  clear hL1
  have e0 : (d == 0) = true := by simpa using hd
  have HE : Hid (L1 = (setA n most L p (setsX n' bs)).2) := by show _ = _; rw [HL1.out, if_pos hd]
  clear hd HL1
  go_enter Tryd.func18, Tryd.ntmps18
  go_upto_region 1 with fail
  generalize w.alloc (.cells #[.int .i64 d, .int .i64 p, .int .i64 n', .slice a len cap, .int .u64 z] TSt) = w1 at *
  obtain ⟨B, hB⟩ : ∃ B, B = w.heap.size := ⟨_, rfl⟩
  rw [← hB] at X1 HB HB0 ⊢
  clear hB
  have c0 := X1.out.cell 0; have c1 := X1.out.cell 1; have c2 := X1.out.cell 2; have c3 := X1.out.cell 3; have c4 := X1.out.cell 4
  have HS := Lib.hid (setsAll n' a len cap bs w1 O1.out.sl O1.out.by8)
  go_wp2_with fail
  refine HS.out.mono ?_; rintro e w2 ⟨so, ro, rfl, s1, s2, m2⟩
  have T2 := Lib.hid (T1.out.new m2)
  have X2 := Lib.hid (X1.out.mod m2 (fun h => h))
  have hlo : ∀ i, BDb b M g ks i → i < w1.heap.size := fun i hi => T1.out.bd.lt hi
  have HSR := Lib.hid s2
  have M2 := Lib.hid (M1.out.trans (m2.mono (S' := fun i => B0 ≤ i) fun _ _ e => e.elim))
  have HI := O1.out.i
  have HC := Lib.hid (codeSet p so (setsX n' bs) b M g n most ks L w2 T2.out.bd T2.out.e1 T2.out.tab.1 T2.out.len.1 T2.out.sm.2.2 HI s1 hlo)
  have HLO := Lib.hid hlo
  clear m2 s1 s2 hlo HI c0 c1 c2 c3 c4 X1 HS M1
  have c1 := X2.out.cell 1
  go_wp2_with fail
  refine HC.out.mono ?_; rintro e w3 ⟨rfl, h3⟩
  obtain ⟨k3, _, _, m3, _⟩ := id h3
  have hr3 := T2.out.mid m3
  have X3 := Lib.hid (X2.out.mod m3 (fun e => by have := HB.out _ (.inl e); omega))
  have HSR3 := Lib.hid (HSR.out.mod m3 HLO.out)
  have hb3 : base ≤ w3.heap.size := by have := T2.out.base; have := m3.size; omega
  have HF := Lib.hid (refSet p ro (setsX n' bs) b' base n most ks' L w3 hr3.1 T2.out.e2 T2.out.rise.2 T2.out.len.2.1 T2.out.sm.2 hb3 HSR3.out)
  have H3 := Lib.hid h3
  clear h3 m3 hr3 hb3 c1 X2 HC HSR
  have c1 := X3.out.cell 1
  go_wp2_with fail
  refine HF.out.mono ?_; rintro e w4 ⟨rfl, h4⟩
  have hb := T2.out.both H3.out h4 (by rw [← HE.out]; exact HOK.out)
  rw [← HE.out] at hb
  have HH := Lib.hid hb
  clear hb h4
  go_wp2_with fail
  go_ret
  exact ⟨by simp, HH.out.1, M2.out.trans HH.out.2⟩
set_option maxRecDepth 100000 in
set_option maxHeartbeats 4000000 in
theorem step1 (s : Sb) (B0 b M g : Nat) (ks : List (Int × Ow)) (b' base : Nat) (ks' : List (Int × Rp)) (n : Nat) (most : Int) (L : LB) (w : World) (h : TwoB w B0 b M g ks b' base ks' n most L) (ho : OkSb w s) (hd : s.d = 1) :
    Calls Tryd.prog 18 #[.pointer (some ⟨b, 0, none⟩), .pointer (some ⟨b', 0, none⟩), .agg (spB s)] w fun e w' => e = .returned (.bool true) ∧ TwoP w' B0 b b' n most (stepA n most L s) ∧ Mod (fun i => B0 ≤ i) w w' := by
  have m1 := (Mod.refl (fun _ => False) w).alloc (.cells (spB s) TSt)
  have T1 := Lib.hid (h.new m1)
  have O1 := Lib.hid (ho.new m1)
  have X1 := Lib.hid (Blk.new w (spB s) TSt)
  have HOK := Lib.hid (h.ok.step (n := n) s)
  have M1 := Lib.hid (m1.mono (S' := fun i => B0 ≤ i) fun _ _ e => e.elim)
  have HB : Hid (∀ i, BDb b M g ks i ∨ RDb w b' ks' i → i < w.heap.size) := fun i hi => hi.elim h.bd.lt h.rd.low
  have HR : Hid (∀ i, RDb (w.alloc (.cells (spB s) TSt)) b' ks' i → RDb w b' ks' i) := (h.rd.modB m1 fun _ _ h => h).2
  have HB0 := Lib.hid h.B0
  clear h m1 ho
  obtain ⟨d, p, n', a, len, cap, bs, z⟩ := s
  obtain ⟨L1, hL1⟩ : ∃ x, x = stepA n most L ⟨d, p, n', a, len, cap, bs, z⟩ := ⟨_, rfl⟩
  rw [← hL1] at HOK ⊢
  unfold stepA at hL1
  dsimp only [spB] at *
  have HL1 := Lib.hid hL1
  clear hL1
  have e1 : (d == 1) = true := by simpa using hd
  have e0 : (d == 0) = false := by simp; omega
  have HE : Hid (L1 = (addA n L p n').2) := by show _ = _; rw [HL1.out, if_neg (by omega), if_pos hd]
  clear hd HL1
  go_enter Tryd.func18, Tryd.ntmps18
  go_upto_region 1 with fail
  generalize w.alloc (.cells #[.int .i64 d, .int .i64 p, .int .i64 n', .slice a len cap, .int .u64 z] TSt) = w1 at *
  obtain ⟨B, hB⟩ : ∃ B, B = w.heap.size := ⟨_, rfl⟩
  rw [← hB] at X1 HB HB0 ⊢
  clear hB
  have c0 := X1.out.cell 0; have c1 := X1.out.cell 1; have c2 := X1.out.cell 2; have c3 := X1.out.cell 3; have c4 := X1.out.cell 4
  have HI := O1.out.i
  have HC := Lib.hid (codeAdd p n' b M g n most ks L w1 T1.out.bd T1.out.e1 T1.out.len.1 HI)
  clear HI
  go_wp2_with fail
  refine HC.out.mono ?_; rintro e w3 ⟨rfl, h3⟩
  obtain ⟨k3, _, _, m3, _⟩ := id h3
  have hr3 := T1.out.mid m3
  have X3 := Lib.hid (X1.out.mod m3 (fun e => by have := HB.out _ (.inl e); omega))
  have hb3 : base ≤ w3.heap.size := by have := T1.out.base; have := m3.size; omega
  have HF := Lib.hid (refAdd p n' b' base n most ks' L w3 hr3.1 T1.out.e2 T1.out.rise.2 T1.out.len.2.1)
  have H3 := Lib.hid h3
  clear h3 m3 hr3 hb3 c0 c1 c2 c3 c4 X1 HC
  have c1 := X3.out.cell 1; have c2 := X3.out.cell 2
  go_wp2_with fail
  refine HF.out.mono ?_; rintro e w4 ⟨rfl, h4⟩
  have hb := T1.out.both H3.out h4 (by rw [← HE.out]; exact HOK.out)
  rw [← HE.out] at hb
  have HH := Lib.hid hb
  clear hb h4
  go_wp2_with fail
  go_ret
  exact ⟨by simp, HH.out.1, M1.out.trans HH.out.2⟩
set_option maxRecDepth 100000 in
set_option maxHeartbeats 4000000 in
theorem step2 (s : Sb) (B0 b M g : Nat) (ks : List (Int × Ow)) (b' base : Nat) (ks' : List (Int × Rp)) (n : Nat) (most : Int) (L : LB) (w : World) (h : TwoB w B0 b M g ks b' base ks' n most L) (ho : OkSb w s) (hd : s.d = 2) :
    Calls Tryd.prog 18 #[.pointer (some ⟨b, 0, none⟩), .pointer (some ⟨b', 0, none⟩), .agg (spB s)] w fun e w' => e = .returned (.bool true) ∧ TwoP w' B0 b b' n most (stepA n most L s) ∧ Mod (fun i => B0 ≤ i) w w' := by
  have m1 := (Mod.refl (fun _ => False) w).alloc (.cells (spB s) TSt)
  have T1 := Lib.hid (h.new m1)
  have O1 := Lib.hid (ho.new m1)
  have X1 := Lib.hid (Blk.new w (spB s) TSt)
  have HOK := Lib.hid (h.ok.step (n := n) s)
  have M1 := Lib.hid (m1.mono (S' := fun i => B0 ≤ i) fun _ _ e => e.elim)
  have HB : Hid (∀ i, BDb b M g ks i ∨ RDb w b' ks' i → i < w.heap.size) := fun i hi => hi.elim h.bd.lt h.rd.low
  have HR : Hid (∀ i, RDb (w.alloc (.cells (spB s) TSt)) b' ks' i → RDb w b' ks' i) := (h.rd.modB m1 fun _ _ h => h).2
  have HB0 := Lib.hid h.B0
  clear h m1 ho
  obtain ⟨d, p, n', a, len, cap, bs, z⟩ := s
  obtain ⟨L1, hL1⟩ : ∃ x, x = stepA n most L ⟨d, p, n', a, len, cap, bs, z⟩ := ⟨_, rfl⟩
  rw [← hL1] at HOK ⊢
  unfold stepA at hL1
  dsimp only [spB] at *
  have HL1 := Lib.hid hL1
  clear hL1
  have e2 : (d == 2) = true := by simpa using hd
  have e1 : (d == 1) = false := by simp; omega
  have e0 : (d == 0) = false := by simp; omega
  have HE : Hid (L1 = (goneA L p).2) := by show _ = _; rw [HL1.out, if_neg (by omega), if_neg (by omega), if_pos hd]
  clear hd HL1
  go_enter Tryd.func18, Tryd.ntmps18
  go_upto_region 1 with fail
  generalize w.alloc (.cells #[.int .i64 d, .int .i64 p, .int .i64 n', .slice a len cap, .int .u64 z] TSt) = w1 at *
  obtain ⟨B, hB⟩ : ∃ B, B = w.heap.size := ⟨_, rfl⟩
  rw [← hB] at X1 HB HB0 ⊢
  clear hB
  have c0 := X1.out.cell 0; have c1 := X1.out.cell 1; have c2 := X1.out.cell 2; have c3 := X1.out.cell 3; have c4 := X1.out.cell 4
  have HI := O1.out.i
  have HC := Lib.hid (codeGone p b M g n most ks L w1 T1.out.bd T1.out.e1 T1.out.tab.1 T1.out.len.1 T1.out.sm.2.2 HI)
  clear HI
  go_wp2_with fail
  refine HC.out.mono ?_; rintro e w3 ⟨rfl, h3⟩
  obtain ⟨k3, _, _, m3, _⟩ := id h3
  have hr3 := T1.out.mid m3
  have X3 := Lib.hid (X1.out.mod m3 (fun e => by have := HB.out _ (.inl e); omega))
  have hb3 : base ≤ w3.heap.size := by have := T1.out.base; have := m3.size; omega
  have HF := Lib.hid (refGone p b' base n most ks' L w3 hr3.1 T1.out.e2 T1.out.rise.2 T1.out.len.2.1 hb3)
  have H3 := Lib.hid h3
  clear h3 m3 hr3 hb3 c0 c1 c2 c3 c4 X1 HC
  have c1 := X3.out.cell 1; have c2 := X3.out.cell 2
  go_wp2_with fail
  refine HF.out.mono ?_; rintro e w4 ⟨rfl, h4⟩
  have hb := T1.out.both H3.out h4 (by rw [← HE.out]; exact HOK.out)
  rw [← HE.out] at hb
  have HH := Lib.hid hb
  clear hb h4
  go_wp2_with fail
  go_ret
  exact ⟨by simp, HH.out.1, M1.out.trans HH.out.2⟩
set_option maxRecDepth 100000 in
set_option maxHeartbeats 4000000 in
theorem step3 (s : Sb) (B0 b M g : Nat) (ks : List (Int × Ow)) (b' base : Nat) (ks' : List (Int × Rp)) (n : Nat) (most : Int) (L : LB) (w : World) (h : TwoB w B0 b M g ks b' base ks' n most L) (ho : OkSb w s) (hd : s.d ≠ 0 ∧ s.d ≠ 1 ∧ s.d ≠ 2) :
    Calls Tryd.prog 18 #[.pointer (some ⟨b, 0, none⟩), .pointer (some ⟨b', 0, none⟩), .agg (spB s)] w fun e w' => e = .returned (.bool true) ∧ TwoP w' B0 b b' n most (stepA n most L s) ∧ Mod (fun i => B0 ≤ i) w w' := by
  have m1 := (Mod.refl (fun _ => False) w).alloc (.cells (spB s) TSt)
  have T1 := Lib.hid (h.new m1)
  have O1 := Lib.hid (ho.new m1)
  have X1 := Lib.hid (Blk.new w (spB s) TSt)
  have HOK := Lib.hid (h.ok.step (n := n) s)
  have M1 := Lib.hid (m1.mono (S' := fun i => B0 ≤ i) fun _ _ e => e.elim)
  have HB : Hid (∀ i, BDb b M g ks i ∨ RDb w b' ks' i → i < w.heap.size) := fun i hi => hi.elim h.bd.lt h.rd.low
  have HR : Hid (∀ i, RDb (w.alloc (.cells (spB s) TSt)) b' ks' i → RDb w b' ks' i) := (h.rd.modB m1 fun _ _ h => h).2
  have HB0 := Lib.hid h.B0
  clear h m1 ho
  obtain ⟨d, p, n', a, len, cap, bs, z⟩ := s
  obtain ⟨L1, hL1⟩ : ∃ x, x = stepA n most L ⟨d, p, n', a, len, cap, bs, z⟩ := ⟨_, rfl⟩
  rw [← hL1] at HOK ⊢
  unfold stepA at hL1
  dsimp only [spB] at *
  have HL1 := Lib.hid hL1
  clear hL1
  have e2 : (d == 2) = false := by simp; omega
  have e1 : (d == 1) = false := by simp; omega
  have e0 : (d == 0) = false := by simp; omega
  have HE : Hid (L1 = L) := by show _ = _; rw [HL1.out, if_neg (by omega), if_neg (by omega), if_neg (by omega)]
  clear hd HL1
  go_enter Tryd.func18, Tryd.ntmps18
  go_upto_region 1 with fail
  generalize w.alloc (.cells #[.int .i64 d, .int .i64 p, .int .i64 n', .slice a len cap, .int .u64 z] TSt) = w1 at *
  obtain ⟨B, hB⟩ : ∃ B, B = w.heap.size := ⟨_, rfl⟩
  rw [← hB] at X1 HB HB0 ⊢
  clear hB
  have c0 := X1.out.cell 0; have c1 := X1.out.cell 1; have c2 := X1.out.cell 2; have c3 := X1.out.cell 3; have c4 := X1.out.cell 4
  have HS := Lib.hid (setsAll n' a len cap bs w1 O1.out.sl O1.out.by8)
  go_wp2_with fail
  refine HS.out.mono ?_; rintro e w2 ⟨so, ro, rfl, s1, s2, m2⟩
  have T2 := Lib.hid (T1.out.new m2)
  have X2 := Lib.hid (X1.out.mod m2 (fun h => h))
  have HSR := Lib.hid s2
  have M2 := Lib.hid (M1.out.trans (m2.mono (S' := fun i => B0 ≤ i) fun _ _ e => e.elim))
  have HI := O1.out.i
  have HC := Lib.hid (codePick p z so (setsX n' bs) b M g n most ks L w2 T2.out.bd T2.out.e1 T2.out.tab.1 T2.out.sm.2.2 HI s1)
  clear m2 s1 s2 HI c0 c1 c2 c3 c4 X1 HS M1
  have c1 := X2.out.cell 1; have c4 := X2.out.cell 4
  go_wp2_with fail
  refine HC.out.mono ?_; rintro e w3 ⟨rfl, m3⟩
  have T3 := Lib.hid (T2.out.new m3)
  have X3 := Lib.hid (X2.out.mod m3 (fun h => h))
  have HF := Lib.hid (refPick p z ro (setsX n' bs) b' base n most ks' L w3 T3.out.rd T3.out.e2 T3.out.rise.2 T3.out.len.2.1 T3.out.sm.2.2 (HSR.out.mod m3 fun _ e => e.elim))
  have M3 := Lib.hid (M2.out.trans (m3.mono (S' := fun i => B0 ≤ i) fun _ _ e => e.elim))
  clear m3 c1 c4 X2 HC HSR M2 T2
  have c1 := X3.out.cell 1; have c4 := X3.out.cell 4
  go_wp2_with fail
  refine HF.out.mono ?_; rintro e w4 ⟨rfl, m4⟩
  have T4 := Lib.hid (T3.out.new m4)
  have M4 := Lib.hid (M3.out.trans (m4.mono (S' := fun i => B0 ≤ i) fun _ _ e => e.elim))
  clear m4
  go_wp2_with fail
  go_ret
  refine ⟨by simp, ?_, M4.out⟩
  rw [HE.out]
  exact ⟨_, _, _, _, _, T4.out⟩
/-- A step, whole. -/
theorem step13 (s : Sb) (B0 b b' n : Nat) (most : Int) (L : LB) (w : World) (h : TwoP w B0 b b' n most L) (ho : OkSb w s) :
    Calls Tryd.prog 18 #[.pointer (some ⟨b, 0, none⟩), .pointer (some ⟨b', 0, none⟩), .agg (spB s)] w fun e w' => e = .returned (.bool true) ∧ TwoP w' B0 b b' n most (stepA n most L s) ∧ Mod (fun i => B0 ≤ i) w w' := by
  obtain ⟨M, g, ks, base, ks', h⟩ := h
  by_cases h0 : s.d = 0
  · exact step0 s B0 b M g ks b' base ks' n most L w h ho h0
  · by_cases h1 : s.d = 1
    · exact step1 s B0 b M g ks b' base ks' n most L w h ho h1
    · by_cases h2 : s.d = 2
      · exact step2 s B0 b M g ks b' base ks' n most L w h ho h2
      · exact step3 s B0 b M g ks b' base ks' n most L w h ho ⟨h0, h1, h2⟩
end Go.Proofs.YtegmgflplhpacaaDoor
