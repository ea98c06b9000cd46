/- The laws on strikes: a step at both books: they tell the same; no condition. -/
import Derived.Test.YtiabjaaamgjlnaaSwA
namespace Go.Proofs.Ytiabjaaamgjlnaa
open Go Go.RowKit

theorem BK.mod' {S : Nat → Prop} {w w' : World} {b M b' base : Nat} {lim ban most : Int} {n : Nat} {ks l : List (Int × Rc)} (h : Two w b M b' base lim ban most n ks) (ht : BK w b M lim ban most l) (hm : Mod S w w') (hS : ∀ i, S i → i = b' ∨ base ≤ i) : BK w' b M lim ban most l := by
  have := h.ne
  exact ht.mod hm (fun e => by have := hS _ e; omega) (fun e => by have := hS _ e; omega)
/-- What the book tells of a good word. -/
theorem strGood (id : Int) (b M : Nat) (lim ban most : Int) (ks : List (Int × Rc)) (w : World) (hi : I64 id) (h : BK w b M lim ban most ks) (hs : ∀ q ∈ ks, 0 ≤ q.2.s ∧ q.2.s ≤ 1000) (hlen : ks.length ≤ 1000) :
    Calls Try.prog 13 #[.pointer (some ⟨b, 0, none⟩), .int .i64 id] w fun e w' => e = .returned (.tuple #[]) ∧ BK w' b M lim ban most (goodK ks id) ∧ Mod (· = M) w w' := by
  by_cases hy : ∃ r, lkL ks id = some r ∧ r.u = 0
  · obtain ⟨r, hr, hu⟩ := hy
    have h1 := hs _ (lk_some_mem hr)
    refine (strGood1 id b M lim ban most ks w hi h r hr hu h1.1 h1.2 (by unfold maxLen; omega)).mono fun e w' ⟨g1, g2, g3⟩ => ⟨g1, ?_, g3⟩
    unfold goodK
    rw [hr]
    dsimp only
    rw [if_pos hu]
    exact g2
  · refine (strGood0 id b M lim ban most ks w hi h fun r hr hu => hy ⟨r, hr, hu⟩).mono fun e w' ⟨g1, g3⟩ => ⟨g1, ?_, mod_any g3⟩
    have : goodK ks id = ks := by
      unfold goodK
      cases hk : lkL ks id with
      | none => rfl
      | some r => dsimp only; rw [if_neg fun hu => hy ⟨r, hk, hu⟩]
    rw [this]
    exact h.new g3
set_option maxRecDepth 100000 in
set_option maxHeartbeats 1000000 in
theorem strStrikeNoB (id now by' : Int) (b M : Nat) (lim ban most : Int) (ks : List (Int × Rc)) (w : World) (hi : 1 ≤ id) (hi2 : id ≤ 65536) (hn : 0 ≤ now) (hn2 : now ≤ 1099511627776) (hb : 0 ≤ by') (hb2 : by' ≤ 1048576) (h : BK w b M lim ban most ks) (hnb : bnd ks id now = true) :
    Calls Try.prog 10 #[.pointer (some ⟨b, 0, none⟩), .int .i64 id, .int .i64 now, .int .i64 by'] w fun e w' => e = .returned (.tuple #[.bool false, .int .i64 9]) ∧ w = w' := by
  have e1 : (decide (1 ≤ id) && decide (id ≤ 65536)) = true := by simp [hi, hi2]
  have e2 : (decide (0 ≤ now) && decide (now ≤ 1099511627776)) = true := by simp [hn, hn2]
  have e3 : (decide (0 ≤ by') && decide (by' ≤ 1048576)) = true := by simp [hb, hb2]
  have HI := Lib.hid (i64_of (k := id) (by omega) (by omega))
  have HB := Lib.hid h
  clear h
  go_enter Try.func10, Try.ntmps10
  go_wp2_with fail
  refine (strWithin _ _ _ _).mono ?_; rw [e1]; rintro e w' ⟨rfl, rfl⟩
  go_wp2_with fail
  refine (strWithin _ _ _ _).mono ?_; rw [e2]; rintro e w' ⟨rfl, rfl⟩
  go_wp2_with fail
  refine (strWithin _ _ _ _).mono ?_; rw [e3]; rintro e w' ⟨rfl, rfl⟩
  go_wp2_with fail
  refine (strBanned _ _ _ _ _ _ _ _ _ HI.out HB.out).mono ?_; rw [hnb]; rintro e w' ⟨rfl, rfl⟩
  go_wp2_with fail
  go_ret2
  exact ⟨rfl, rfl⟩

/-- What both Strikes tell. -/
def strR (lim ban most : Int) (ks : List (Int × Rc)) (s : St) : Bool × Int := if StrOk s.i s.n s.b then (if bnd ks s.i s.n then (false, 9) else (decide (0 < (rd (strK lim ban most ks s) s.i).u), 0)) else (false, 1)
theorem strStrike (s : St) (b M b' base : Nat) (lim ban most : Int) (n : Nat) (ks : List (Int × Rc)) (w : World) (h : Two w b M b' base lim ban most n ks) (hn : n ≤ 1000000) (hL : BookOk lim ban most) :
    Calls Try.prog 10 #[.pointer (some ⟨b, 0, none⟩), .int .i64 s.i, .int .i64 s.n, .int .i64 s.b] w fun e w' => e = .returned (.tuple #[.bool (strR lim ban most ks s).1, .int .i64 (strR lim ban most ks s).2]) ∧ BK w' b M lim ban most (strK lim ban most ks s) ∧ Mod (· = M) w w' := by
  have hlen := h.len hL.2.2.2.2.2
  have hL' := hL
  by_cases hs : StrOk s.i s.n s.b
  · have hs' := hs
    obtain ⟨s1, s2, s3, s4, s5, s6⟩ := hs'
    cases hb : bnd ks s.i s.n with
    | true =>
      have e1 : strR lim ban most ks s = (false, 9) := by unfold strR; rw [if_pos hs, hb]; rfl
      have e2 : strK lim ban most ks s = ks := by unfold strK; rw [if_neg]; rw [hb]; simp
      rw [e1, e2]
      exact (strStrikeNoB s.i s.n s.b b M lim ban most ks w s1 s2 s3 s4 s5 s6 h.t hb).mono fun e w' ⟨g1, g2⟩ => ⟨g1, by rw [← g2]; exact h.t, by rw [← g2]; exact Mod.refl _ _⟩
    | false =>
      have e2 : strK lim ban most ks s = cutX most (putL ks s.i (strX lim ban (rd ks s.i) s.n s.b)) := by unfold strK; rw [if_pos ⟨hs, hb⟩]
      have e1 : strR lim ban most ks s = (decide (0 < (rd (strK lim ban most ks s) s.i).u), 0) := by unfold strR; rw [if_pos hs, hb]; rfl
      rw [e1, e2]
      have hr := h.ok.rd hn hL.1 s.i
      have hp := h.ok.put hn hL hs
      have hU : OkU (putL ks s.i (strX lim ban (rd ks s.i) s.n s.b)) := fun q hq => (hp q hq).2.2.2.2.1
      have hne : putL ks s.i (strX lim ban (rd ks s.i) s.n s.b) ≠ [] := by
        intro e; have := congrArg List.length e; unfold putL at this; rw [length_insS] at this; simp at this
      obtain ⟨r, hm⟩ := firstK_mem hne hU
      have hf := hp _ hm
      have hl := len_put ks s.i (strX lim ban (rd ks s.i) s.n s.b)
      obtain ⟨l1, l2, l3, l4, l5, l6⟩ := hL
      exact strStrikeX s.i s.n s.b b M lim ban most ks w s1 s2 s3 s4 s5 s6 h.t hb (by omega) (by omega) (by omega) hU (i64_of (by simp only at hf; omega) (by simp only at hf; omega)) (by omega) (by omega)
  · have e1 : strR lim ban most ks s = (false, 1) := by unfold strR; rw [if_neg hs]
    have e2 : strK lim ban most ks s = ks := by unfold strK; rw [if_neg fun h => hs h.1]
    rw [e1, e2]
    exact (strStrikeBad s.i s.n s.b b w hs).mono fun e w' ⟨g1, g2⟩ => ⟨g1, by rw [← g2]; exact h.t, by rw [← g2]; exact Mod.refl _ _⟩
theorem refStrike (s : St) (b' base : Nat) (lim ban most : Int) (n : Nat) (ks : List (Int × Rc)) (w : World) (h : RB w b' base lim ban most ks) (hbase : base ≤ w.heap.size) (hok : OkB lim most n ks) (hn : n ≤ 1000000) (hL : BookOk lim ban most) :
    Calls Try.prog 27 #[.pointer (some ⟨b', 0, none⟩), .int .i64 s.i, .int .i64 s.n, .int .i64 s.b] w fun e w' => e = .returned (.tuple #[.bool (strR lim ban most ks s).1, .int .i64 (strR lim ban most ks s).2]) ∧ RB w' b' base lim ban most (strK lim ban most ks s) ∧ Mod (· = b') w w' := by
  have hlen := hok.len
  have hl6 := hL.2.2.2.2.2
  by_cases hs : StrOk s.i s.n s.b
  · have hs' := hs
    obtain ⟨s1, s2, s3, s4, s5, s6⟩ := hs'
    cases hb : bnd ks s.i s.n with
    | true =>
      have e1 : strR lim ban most ks s = (false, 9) := by unfold strR; rw [if_pos hs, hb]; rfl
      have e2 : strK lim ban most ks s = ks := by unfold strK; rw [if_neg]; rw [hb]; simp
      rw [e1, e2]
      exact (refStrikeNo s.i s.n s.b b' base lim ban most ks w s1 s2 s3 s4 s5 s6 h (by omega) hok.rising hb).mono fun e w' ⟨g1, g2⟩ => ⟨g1, by rw [← g2]; exact h, by rw [← g2]; exact Mod.refl _ _⟩
    | false =>
      have e2 : strK lim ban most ks s = cutX most (putL ks s.i (strX lim ban (rd ks s.i) s.n s.b)) := by unfold strK; rw [if_pos ⟨hs, hb⟩]
      have e1 : strR lim ban most ks s = (decide (0 < (rd (strK lim ban most ks s) s.i).u), 0) := by unfold strR; rw [if_pos hs, hb]; rfl
      rw [e1, e2]
      have hr := hok.rd hn hL.1 s.i
      have hp := hok.put hn hL hs
      have hU : OkU (putL ks s.i (strX lim ban (rd ks s.i) s.n s.b)) := fun q hq => (hp q hq).2.2.2.2.1
      have hl := len_put ks s.i (strX lim ban (rd ks s.i) s.n s.b)
      obtain ⟨l1, l2, l3, l4, l5, l6⟩ := hL
      exact refStrikeX s.i s.n s.b b' base lim ban most ks w s1 s2 s3 s4 s5 s6 h hb hok.rising hbase (by omega) (by omega) (by omega) hU (by omega) (by omega)
  · have e1 : strR lim ban most ks s = (false, 1) := by unfold strR; rw [if_neg hs]
    have e2 : strK lim ban most ks s = ks := by unfold strK; rw [if_neg fun h => hs h.1]
    rw [e1, e2]
    exact (refStrikeBad s.i s.n s.b b' w hs).mono fun e w' ⟨g1, g2⟩ => ⟨g1, by rw [← g2]; exact h, by rw [← g2]; exact Mod.refl _ _⟩

set_option maxRecDepth 100000 in
set_option maxHeartbeats 4000000 in
theorem stepBoth (s : St) (b M b' base : Nat) (lim ban most : Int) (n : Nat) (ks : List (Int × Rc)) (w : World) (h : Two w b M b' base lim ban most n ks) (hn : n ≤ 1000000) (hL : BookOk lim ban most) (hI : I64 s.i) :
    Calls Try.prog 18 #[.pointer (some ⟨b, 0, none⟩), .pointer (some ⟨b', 0, none⟩), .agg #[.int .i64 s.d, .int .i64 s.i, .int .i64 s.n, .int .i64 s.b]] w fun e w' => e = .returned (.bool true) ∧ Two w' b M b' base lim ban most (n + 1) (stepK lim ban most ks s) ∧ Mod (Turn M b' base) w w' := by
  have m1 := (Mod.refl (fun _ => False) w).alloc (.cells #[.int .i64 s.d, .int .i64 s.i, .int .i64 s.n, .int .i64 s.b] 44)
  have T1 := Lib.hid (h.new m1)
  have X1 := Lib.hid (Blk.new w #[.int .i64 s.d, .int .i64 s.i, .int .i64 s.n, .int .i64 s.b] 44)
  have hb : base ≤ w.heap.size := h.ne.2.2.2.2
  have HNE := Lib.hid h.ne
  have HOK := Lib.hid (h.ok.step hn hL s)
  have HL := Lib.hid hL
  have HI := Lib.hid hI
  have hl64 := h.len hL.2.2.2.2.2
  have M1 := Lib.hid m1
  have hS : ∀ q ∈ ks, 0 ≤ q.2.s ∧ q.2.s ≤ 1000 := fun q hq => by have := h.ok.each q hq; omega
  have HS := Lib.hid hS
  clear h hL hI m1 hS
  obtain ⟨d, i, now, by'⟩ := s
  dsimp only at *
  obtain ⟨w1, hw1⟩ : ∃ w1, w1 = w.alloc (.cells #[.int .i64 d, .int .i64 i, .int .i64 now, .int .i64 by'] 44) := ⟨_, rfl⟩
  rw [← hw1] at T1 X1 M1
  have HW1 := Lib.hid hw1
  clear hw1
  by_cases hd0 : d = 0
  · have HK : Hid (stepK lim ban most ks ⟨d, i, now, by'⟩ = strK lim ban most ks ⟨d, i, now, by'⟩) := by show _ = _; unfold stepK; rw [if_pos hd0]
    have hd0' : (d == 0) = true := by simpa using hd0
    clear hd0
    have c1 := X1.out.cell 1; have c2 := X1.out.cell 2; have c3 := X1.out.cell 3
    obtain ⟨R1, R2, hR⟩ : ∃ R1 R2, (R1, R2) = strR lim ban most ks ⟨d, i, now, by'⟩ := ⟨_, _, rfl⟩
    have HA := Lib.hid (strStrike ⟨d, i, now, by'⟩ b M b' base lim ban most n ks w1 T1.out hn HL.out)
    rw [← hR] at HA
    have HR := Lib.hid hR
    clear hR
    go_enter Try.func18, Try.ntmps18
    go_wp2_with fail
    rw [← HW1.out]
    refine HA.out.mono ?_; rintro e w2 ⟨rfl, t2, m2⟩
    have r2 := T1.out.real t2 m2
    have hBM : ¬ w.heap.size = M := by have := HNE.out; omega
    have X2 := Lib.hid (X1.out.mod m2 hBM)
    have c1' := X2.out.cell 1; have c2' := X2.out.cell 2; have c3' := X2.out.cell 3
    have HC := Lib.hid (refStrike ⟨d, i, now, by'⟩ b' base lim ban most n ks w2 r2.1 r2.2.1 T1.out.ok hn HL.out)
    rw [← HR.out] at HC
    have T2 := Lib.hid t2
    have M2 := Lib.hid m2
    have R2' := Lib.hid r2
    clear t2 m2 r2 c1 c2 c3
    go_wp2_with fail
    refine HC.out.mono ?_; rintro e w3 ⟨rfl, t3, m3⟩
    have hM3 := M2.out.size
    have T3 : Hid (Two w3 b M b' base lim ban most (n + 1) (stepK lim ban most ks ⟨d, i, now, by'⟩)) := by
      have hne := HNE.out
      have h2 := R2'.out.2.1
      have h3 := m3.size
      refine ⟨?_, ?_, by omega, HOK.out⟩
      · rw [HK.out]; exact T2.out.mod m3 (fun e => by omega) (fun e => by omega)
      · rw [HK.out]; exact t3
    have M3 : Hid (Mod (Turn M b' base) w w3) := (mod_any M1.out).trans ((M2.out.mono (fun i _ h => .inl h)).trans (m3.mono (fun i _ h => .inr (.inl h))))
    clear t3 m3
    go_wp2_with fail
    all_goals first
      | (go_ret; exact ⟨by simp, T3.out, M3.out⟩)
      | skip
  · by_cases hd1 : d = 1
    · have HK : Hid (stepK lim ban most ks ⟨d, i, now, by'⟩ = goodK ks i) := by show _ = _; unfold stepK; rw [if_neg hd0, if_pos hd1]
      have hd0' : (d == 0) = false := by simpa using hd0
      have hd1' : (d == 1) = true := by simpa using hd1
      clear hd0 hd1
      have c1 := X1.out.cell 1
      have HA := Lib.hid (strGood i b M lim ban most ks w1 HI.out T1.out.t HS.out (by omega))
      go_enter Try.func18, Try.ntmps18
      go_wp2_with fail
      rw [← HW1.out]
      refine HA.out.mono ?_; rintro e w2 ⟨rfl, t2, m2⟩
      have r2 := T1.out.real t2 m2
      have hBM : ¬ w.heap.size = M := by have := HNE.out; omega
      have X2 := Lib.hid (X1.out.mod m2 hBM)
      have c1' := X2.out.cell 1
      have HC := Lib.hid (refGood i b' base lim ban most ks w2 r2.1 (by omega) T1.out.ok.rising HS.out)
      have T2 := Lib.hid t2
      have M2 := Lib.hid m2
      have R2' := Lib.hid r2
      clear t2 m2 r2 c1
      go_wp2_with fail
      refine HC.out.mono ?_; rintro e w3 ⟨rfl, t3, m3⟩
      have T3 : Hid (Two w3 b M b' base lim ban most (n + 1) (stepK lim ban most ks ⟨d, i, now, by'⟩)) := by
        have hne := HNE.out
        have h2 := R2'.out.2.1
        have h3 := m3.size
        refine ⟨?_, ?_, by omega, HOK.out⟩
        · rw [HK.out]; exact T2.out.mod m3 (fun e => by omega) (fun e => by omega)
        · rw [HK.out]; exact t3
      have M3 : Hid (Mod (Turn M b' base) w w3) := (mod_any M1.out).trans ((M2.out.mono (fun i _ h => .inl h)).trans (m3.mono (fun i _ h => .inr h)))
      clear t3 m3
      go_wp2_with fail
      go_ret
      exact ⟨rfl, T3.out, M3.out⟩
    · have HK : Hid (stepK lim ban most ks ⟨d, i, now, by'⟩ = expK ks now) := by show _ = _; unfold stepK; rw [if_neg hd0, if_neg hd1]
      have hd0' : (d == 0) = false := by simpa using hd0
      have hd1' : (d == 1) = false := by simpa using hd1
      clear hd0 hd1
      have c2 := X1.out.cell 2
      by_cases hno : 0 ≤ now ∧ now ≤ 1099511627776
      · have HE : Hid (expK ks now = ks.filter fun q => !isOver now q) := by show _ = _; unfold expK; rw [if_pos hno]
        have HA := Lib.hid (strExpire now b M lim ban most ks w1 T1.out.t (by omega) T1.out.ok.i64 hno)
        have HNO := Lib.hid hno
        have hfl : (keysL (ks.filter (isOver now))).length ≤ 1000 := by
          rw [keys_len]
          have := List.length_filter_le (isOver now) ks
          omega
        have HFL := Lib.hid hfl
        clear hno hfl
        go_enter Try.func18, Try.ntmps18
        go_wp2_with fail
        rw [← HW1.out]
        refine HA.out.mono ?_; rintro e w2 ⟨⟨v2, rfl, o2⟩, t2, m2⟩
        have r2 := T1.out.real t2 m2
        have hBM : ¬ w.heap.size = M := by have := HNE.out; omega
        have X2 := Lib.hid (X1.out.mod m2 hBM)
        have c2' := X2.out.cell 2
        have HC := Lib.hid (refExpire now b' base lim ban most ks w2 r2.1 (by omega) r2.2.1 HNO.out)
        obtain ⟨a2, cap2, rfl, _, _, _⟩ := o2.els
        have O2 := Lib.hid o2
        have T2 := Lib.hid t2
        have M2 := Lib.hid m2
        have R2' := Lib.hid r2
        clear t2 m2 r2 c2 o2
        go_wp2_with fail
        refine HC.out.mono ?_; rintro e w3 ⟨⟨v3, rfl, o3⟩, t3, m3⟩
        obtain ⟨a3, cap3, rfl, _, _, _⟩ := o3.els
        have T3 : Hid (Two w3 b M b' base lim ban most (n + 1) (stepK lim ban most ks ⟨d, i, now, by'⟩)) := by
          have hne := HNE.out
          have h2 := R2'.out.2.1
          have h3 := m3.size
          refine ⟨?_, ?_, by omega, HOK.out⟩
          · rw [HK.out, HE.out]; exact T2.out.mod m3 (fun e => by omega) (fun e => by omega)
          · rw [HK.out, HE.out]; exact t3
        have M3 : Hid (Mod (Turn M b' base) w w3) := (mod_any M1.out).trans ((M2.out.mono (fun i _ h => .inl h)).trans (m3.mono (fun i _ h => .inr (.inl h))))
        have hw1 : b' < w1.heap.size := by have := HNE.out; have := T1.out.r.lt; have := M1.out.size; omega
        have O3 := Lib.hid (owns_modG O2.out m3 (fun i hi e => by omega))
        have HSM := Lib.hid (same10 _ _ _ _ w3 O3.out.sl o3.sl (by have := HFL.out; omega))
        clear t3 m3 o3
        go_wp2_with fail
        refine HSM.out.mono ?_; rintro e w4 ⟨rfl, m4⟩
        have T4 := Lib.hid (T3.out.new m4)
        have M4 := Lib.hid (M3.out.trans (mod_any m4))
        clear m4
        go_wp2_with fail
        go_ret
        exact ⟨rfl, T4.out, M4.out⟩
      · have HE : Hid (expK ks now = ks) := by show _ = _; unfold expK; rw [if_neg hno]
        have HA := Lib.hid (strExpireBad now b w1 hno)
        have HC := Lib.hid (refExpireBad now b' w1 hno)
        clear hno
        go_enter Try.func18, Try.ntmps18
        go_wp2_with fail
        rw [← HW1.out]
        refine HA.out.mono ?_; rintro e w2 ⟨rfl, rfl⟩
        go_wp2_with fail
        refine HC.out.mono ?_; rintro e w3 ⟨rfl, rfl⟩
        have T3 : Hid (Two w1 b M b' base lim ban most (n + 1) (stepK lim ban most ks ⟨d, i, now, by'⟩)) := by
          show Two _ _ _ _ _ _ _ _ _ _
          rw [HK.out, HE.out]
          exact ⟨T1.out.t, T1.out.r, T1.out.ne, T1.out.ok.more (by omega)⟩
        have HSM := Lib.hid (same10 (.slice none 0 0) (.slice none 0 0) [] 0 w1 (Sl.nil _ _) (Sl.nil _ _) (by decide))
        go_wp2_with fail
        refine HSM.out.mono ?_; rintro e w4 ⟨rfl, m4⟩
        have T4 := Lib.hid (T3.out.new m4)
        have M4 := Lib.hid ((mod_any (S := Turn M b' base) M1.out).trans (mod_any m4))
        clear m4
        go_wp2_with fail
        go_ret
        exact ⟨rfl, T4.out, M4.out⟩
end Go.Proofs.Ytiabjaaamgjlnaa
