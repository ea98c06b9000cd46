/- The reference's Join; And, Or, Less of what doesn't fit; no condition. -/
import Derived.Test.YtdfdkacnejichaaDoorJoin
import Derived.Test.YtdfdkacnejichaaDoorBitsR2
namespace Go.Proofs.YtdfdkacnejichaaDoor
open Go Go.RowKit Go.IntWalk

/-- What is handed back: a new set of the reference. -/
def NewRef (n : Nat) (F : Nat → Bool) (w : World) (e : Ending) (w' : World) : Prop :=
  ∃ b g : Nat, e = .returned (.tuple #[.pointer (some ⟨b, 0, none⟩), .int .i64 0]) ∧ RSet w' b g n F ∧ Mod (fun _ => False) w w' ∧ w.heap.size ≤ b ∧ w.heap.size ≤ g

set_option maxHeartbeats 400000 in
theorem refJoinBad (b g n : Nat) (f : Nat → Bool) (o : Option Nat) (by' : Int) (w : World) (h : RSet w b g n f) (hbad : ∀ b', o = some b' → ∃ g' n' f', RSet w b' g' n' f' ∧ n' ≠ n) :
    Calls Tryd.prog 25 #[.pointer (some ⟨b, 0, none⟩), .pointer (o.map fun b' => ⟨b', 0, none⟩), .int .i64 by'] w fun e w' => e = .returned (.tuple #[.pointer none, .int .i64 1]) ∧ ∃ k, w' = w.drewN k := by
  obtain ⟨c, c0⟩ := h.s0
  cases o with
  | none =>
    clear h hbad
    simp only [Option.map_none]
    go_enter Tryd.func25, Tryd.ntmps25
    go_wp2_with fail
    go_quiet (fail)
    go_wp2_with fail
    go_ret2
    exact ⟨rfl, _, rfl⟩
  | some b' =>
    obtain ⟨g', n', f', h', hne⟩ := hbad b' rfl
    obtain ⟨c', c1⟩ := h'.s0
    have hne' : ((n' : Int) == n) = false := by rw [beq_eq_false_iff_ne]; omega
    have hne2 : ((n' : Int) != n) = true := by rw [bne_iff_ne]; omega
    have hne3 : (n' == n) = false := by rw [beq_eq_false_iff_ne]; exact hne
    have hne4 : ¬ n' = n := hne
    clear h h' hbad
    simp only [Option.map_some]
    go_enter Tryd.func25, Tryd.ntmps25
    go_wp2_with fail
    go_quiet (fail)
    go_wp2_with fail
    go_ret2
    exact ⟨rfl, _, rfl⟩

set_option maxRecDepth 100000 in
set_option maxHeartbeats 2000000 in
theorem refJoin0 (b g b' g' n : Nat) (f f' : Nat → Bool) (w : World) (h : RSet w b g n f) (h' : RSet w b' g' n f') :
    Calls Tryd.prog 25 #[.pointer (some ⟨b, 0, none⟩), .pointer (some ⟨b', 0, none⟩), .int .i64 0] w (NewRef n (fAnd f f') w) := by
  obtain ⟨i0, hi, hz0, hz1, hz2⟩ := info_parts infoBool
  have hn := h.small
  have hlt := h.lt
  have hlt' := h'.lt
  obtain ⟨c, c0⟩ := h.s0
  obtain ⟨c', c1⟩ := h'.s0
  have hmk : ∀ j, (Instr.makeSlice 67 (.int .i64 (n : Int)) (.int .i64 (n : Int))).run Tryd.prog (w.drewN j) = .ok (.slice (some ⟨w.heap.size, 0, none⟩) n n) ((w.drewN j).alloc (.cells (madeCells #[Value.bool false] n) 4)) := by
    intro j
    have := run_makeSlice (P := Tryd.prog) (w.drewN j) 67 4 i0 (.bool false) Tryd.underlying67 hi hz0 .i64 .i64 (n : Int) (n : Int) (by omega) (Int.le_refl _) (by rw [hz1]; omega) (by rw [hz2]; omega) (by omega)
    rw [hz1, Int.toNat_natCast, Nat.mul_one] at this
    exact this
  have H := Lib.hid h
  have H' := Lib.hid h'
  clear h h' hi hz0 hz1 hz2
  go_enter Tryd.func25, Tryd.ntmps25
  go_wp2_with fail
  go_quiet (fail)
  go_wp2_with fail
  have m3 : Mod (fun _ => False) w (((w.drewN nq).alloc (.cells (madeCells #[Value.bool false] n) 4)).alloc (.cells #[.slice (some ⟨w.heap.size, 0, none⟩) n n] 69)) := (((Mod.refl _ w).drewN _).alloc _).alloc _
  have hr0 : RSet (((w.drewN nq).alloc (.cells (madeCells #[Value.bool false] n) 4)).alloc (.cells #[.slice (some ⟨w.heap.size, 0, none⟩) n n] 69)) (w.heap.size + 1) w.heap.size n (upto (fAnd f f') 0) := by
    refine ⟨⟨n, by have := Blk.new ((w.drewN nq).alloc (.cells (madeCells #[Value.bool false] n) 4)) #[.slice (some ⟨w.heap.size, 0, none⟩) n n] 69; simpa using this⟩, by omega, ⟨_, ((Blk.new (w.drewN nq) _ _)).alloc _, fun k hk => ?_⟩, hn⟩
    rw [made_get _ _ _ rfl hk]
    simp [upto]
  generalize (((w.drewN nq).alloc (.cells (madeCells #[Value.bool false] n) 4)).alloc (.cells #[.slice (some ⟨w.heap.size, 0, none⟩) n n] 69)) = w3 at m3 hr0 ⊢
  obtain ⟨B, hB⟩ : ∃ B, B = w.heap.size := ⟨_, rfl⟩
  rw [← hB] at hr0 hlt hlt' ⊢
  have HR0 := Lib.hid hr0
  have HB := Lib.hid hB
  clear hr0 hmk c0 c1 hB
  go_loopw [9] (fun v wr => ∃ k : Nat, v = .int .i64 k ∧ k ≤ n ∧ Hid (RSet wr (B + 1) B n (upto (fAnd f f') k)) ∧ Mod (· = B) w3 wr) (fun v _ => n - (intOf v).toNat)
  case atStart => exact ⟨0, rfl, Nat.zero_le _, HR0, Mod.refl _ _⟩
  case round =>
    obtain ⟨k, rfl, hk, hr, hm⟩ := hrel
    have ha := (H.out.mod m3 (fun h => h) (fun h => h)).mod hm (by show ¬ b = B; omega) (by show ¬ g = B; omega)
    obtain ⟨ca, e0⟩ := ha.s0
    by_cases hlt0 : k < n
    · have hb := (H'.out.mod m3 (fun h => h) (fun h => h)).mod hm (by show ¬ b' = B; omega) (by show ¬ g' = B; omega)
      obtain ⟨cb, e1⟩ := hb.s0
      obtain ⟨d1, _⟩ := ha.at hlt0
      obtain ⟨d2, _⟩ := hb.at hlt0
      obtain ⟨d3, d4⟩ := hr.out.at hlt0
      obtain ⟨co, e2⟩ := hr.out.s0
      have hnx : ∀ j, RSet ((wr.drewN j).setCell ⟨B, k, none⟩ (.bool (fAnd f f' k))) (B + 1) B n (upto (fAnd f f') (k + 1)) := fun j =>
        (hr.out.drewN j).put k _ _ (by simp [upto]) (fun x hx => by
          unfold upto
          by_cases a : x < k
          · have : x < k + 1 := by omega
            simp [a, this]
          · have : ¬ x < k + 1 := by omega
            simp [a, this])
      have hlt1 : (k : Int) < n := by omega
      have hv : fAnd f f' k = (f k && f' k) := rfl
      rw [hv] at hnx
      clear ha hb hv
      cases hf : f k
      · rw [hf] at d1 hnx
        generalize f' k = v' at d2 hnx
        simp only [Bool.false_and] at hnx
        have HNX := Lib.hid hnx
        clear hnx hf
        go_wp2_with fail
        refine wp_region2 [] [] (by kernel_rfl) (by kernel_rfl) ?_
        repeat (first | (refine reg_anyT (by rfl) (fun K hK => ?_); go_simp; refine hK _ _ ?_; clear hK K) | (refine reg_read (by rfl) (fun K hK => ?_); go_simp; refine hK _ _ ?_; clear hK K))
        refine reg_eff (by rfl) (fun rn K hK => ?_); go_simp; refine hK _ _ ?_; clear hK K
        repeat (first | (refine reg_anyT (by rfl) (fun K hK => ?_); go_simp; refine hK _ _ ?_; clear hK K) | (refine reg_read (by rfl) (fun K hK => ?_); go_simp; refine hK _ _ ?_; clear hK K))
        refine reg_nil (fun nd => ?_)
        go_wp2_with fail
        go_roundw
        case rel => exact ⟨k + 1, by go_num, by omega, ((HNX.out rn).drewN _), ((hm.drewN _).setCell (p := ⟨B, k, none⟩) (.inl rfl) _).drewN _⟩
        case measure => simp [intOf]; omega
      · rw [hf] at d1 hnx
        generalize f' k = v' at d2 hnx
        simp only [Bool.true_and] at hnx
        have HNX := Lib.hid hnx
        clear hnx hf
        go_wp2_with fail
        refine wp_region2 [] [] (by kernel_rfl) (by kernel_rfl) ?_
        repeat (first | (refine reg_anyT (by rfl) (fun K hK => ?_); go_simp; refine hK _ _ ?_; clear hK K) | (refine reg_read (by rfl) (fun K hK => ?_); go_simp; refine hK _ _ ?_; clear hK K))
        refine reg_eff (by rfl) (fun rn K hK => ?_); go_simp; refine hK _ _ ?_; clear hK K
        repeat (first | (refine reg_anyT (by rfl) (fun K hK => ?_); go_simp; refine hK _ _ ?_; clear hK K) | (refine reg_read (by rfl) (fun K hK => ?_); go_simp; refine hK _ _ ?_; clear hK K))
        refine reg_nil (fun nd => ?_)
        go_wp2_with fail
        go_roundw
        case rel => exact ⟨k + 1, by go_num, by omega, ((HNX.out rn).drewN _), ((hm.drewN _).setCell (p := ⟨B, k, none⟩) (.inl rfl) _).drewN _⟩
        case measure => simp [intOf]; omega
    · obtain rfl : k = n := by omega
      have hfin : RSet wr (B + 1) B k (fAnd f f') := hr.out.ext fun j hj => by simp [upto, hj]
      have HFIN := Lib.hid hfin
      clear hfin ha
      go_wp2_with fail
      go_ret2
      exact ⟨B + 1, B, rfl, HFIN.out, m3.new hm (by intro i hi; have := HB.out; omega), by have := HB.out; omega, by have := HB.out; omega⟩

set_option maxRecDepth 100000 in
set_option maxHeartbeats 2000000 in
theorem refJoin1 (b g b' g' n : Nat) (f f' : Nat → Bool) (w : World) (h : RSet w b g n f) (h' : RSet w b' g' n f') :
    Calls Tryd.prog 25 #[.pointer (some ⟨b, 0, none⟩), .pointer (some ⟨b', 0, none⟩), .int .i64 1] w (NewRef n (fOr f f') w) := by
  obtain ⟨i0, hi, hz0, hz1, hz2⟩ := info_parts infoBool
  have hn := h.small
  have hlt := h.lt
  have hlt' := h'.lt
  obtain ⟨c, c0⟩ := h.s0
  obtain ⟨c', c1⟩ := h'.s0
  have hmk : ∀ j, (Instr.makeSlice 67 (.int .i64 (n : Int)) (.int .i64 (n : Int))).run Tryd.prog (w.drewN j) = .ok (.slice (some ⟨w.heap.size, 0, none⟩) n n) ((w.drewN j).alloc (.cells (madeCells #[Value.bool false] n) 4)) := by
    intro j
    have := run_makeSlice (P := Tryd.prog) (w.drewN j) 67 4 i0 (.bool false) Tryd.underlying67 hi hz0 .i64 .i64 (n : Int) (n : Int) (by omega) (Int.le_refl _) (by rw [hz1]; omega) (by rw [hz2]; omega) (by omega)
    rw [hz1, Int.toNat_natCast, Nat.mul_one] at this
    exact this
  have H := Lib.hid h
  have H' := Lib.hid h'
  clear h h' hi hz0 hz1 hz2
  go_enter Tryd.func25, Tryd.ntmps25
  go_wp2_with fail
  go_quiet (fail)
  go_wp2_with fail
  have m3 : Mod (fun _ => False) w (((w.drewN nq).alloc (.cells (madeCells #[Value.bool false] n) 4)).alloc (.cells #[.slice (some ⟨w.heap.size, 0, none⟩) n n] 69)) := (((Mod.refl _ w).drewN _).alloc _).alloc _
  have hr0 : RSet (((w.drewN nq).alloc (.cells (madeCells #[Value.bool false] n) 4)).alloc (.cells #[.slice (some ⟨w.heap.size, 0, none⟩) n n] 69)) (w.heap.size + 1) w.heap.size n (upto (fOr f f') 0) := by
    refine ⟨⟨n, by have := Blk.new ((w.drewN nq).alloc (.cells (madeCells #[Value.bool false] n) 4)) #[.slice (some ⟨w.heap.size, 0, none⟩) n n] 69; simpa using this⟩, by omega, ⟨_, ((Blk.new (w.drewN nq) _ _)).alloc _, fun k hk => ?_⟩, hn⟩
    rw [made_get _ _ _ rfl hk]
    simp [upto]
  generalize (((w.drewN nq).alloc (.cells (madeCells #[Value.bool false] n) 4)).alloc (.cells #[.slice (some ⟨w.heap.size, 0, none⟩) n n] 69)) = w3 at m3 hr0 ⊢
  obtain ⟨B, hB⟩ : ∃ B, B = w.heap.size := ⟨_, rfl⟩
  rw [← hB] at hr0 hlt hlt' ⊢
  have HR0 := Lib.hid hr0
  have HB := Lib.hid hB
  clear hr0 hmk c0 c1 hB
  go_loopw [9] (fun v wr => ∃ k : Nat, v = .int .i64 k ∧ k ≤ n ∧ Hid (RSet wr (B + 1) B n (upto (fOr f f') k)) ∧ Mod (· = B) w3 wr) (fun v _ => n - (intOf v).toNat)
  case atStart => exact ⟨0, rfl, Nat.zero_le _, HR0, Mod.refl _ _⟩
  case round =>
    obtain ⟨k, rfl, hk, hr, hm⟩ := hrel
    have ha := (H.out.mod m3 (fun h => h) (fun h => h)).mod hm (by show ¬ b = B; omega) (by show ¬ g = B; omega)
    obtain ⟨ca, e0⟩ := ha.s0
    by_cases hlt0 : k < n
    · have hb := (H'.out.mod m3 (fun h => h) (fun h => h)).mod hm (by show ¬ b' = B; omega) (by show ¬ g' = B; omega)
      obtain ⟨cb, e1⟩ := hb.s0
      obtain ⟨d1, _⟩ := ha.at hlt0
      obtain ⟨d2, _⟩ := hb.at hlt0
      obtain ⟨d3, d4⟩ := hr.out.at hlt0
      obtain ⟨co, e2⟩ := hr.out.s0
      have hnx : ∀ j, RSet ((wr.drewN j).setCell ⟨B, k, none⟩ (.bool (fOr f f' k))) (B + 1) B n (upto (fOr f f') (k + 1)) := fun j =>
        (hr.out.drewN j).put k _ _ (by simp [upto]) (fun x hx => by
          unfold upto
          by_cases a : x < k
          · have : x < k + 1 := by omega
            simp [a, this]
          · have : ¬ x < k + 1 := by omega
            simp [a, this])
      have hlt1 : (k : Int) < n := by omega
      have hv : fOr f f' k = (f k || f' k) := rfl
      rw [hv] at hnx
      clear ha hb hv
      cases hf : f k
      · rw [hf] at d1 hnx
        generalize f' k = v' at d2 hnx
        simp only [Bool.false_or] at hnx
        have HNX := Lib.hid hnx
        clear hnx hf
        go_wp2_with fail
        refine wp_region2 [] [] (by kernel_rfl) (by kernel_rfl) ?_
        repeat (first | (refine reg_anyT (by rfl) (fun K hK => ?_); go_simp; refine hK _ _ ?_; clear hK K) | (refine reg_read (by rfl) (fun K hK => ?_); go_simp; refine hK _ _ ?_; clear hK K))
        refine reg_eff (by rfl) (fun rn K hK => ?_); go_simp; refine hK _ _ ?_; clear hK K
        repeat (first | (refine reg_anyT (by rfl) (fun K hK => ?_); go_simp; refine hK _ _ ?_; clear hK K) | (refine reg_read (by rfl) (fun K hK => ?_); go_simp; refine hK _ _ ?_; clear hK K))
        refine reg_nil (fun nd => ?_)
        go_wp2_with fail
        go_roundw
        case rel => exact ⟨k + 1, by go_num, by omega, ((HNX.out rn).drewN _), ((hm.drewN _).setCell (p := ⟨B, k, none⟩) (.inl rfl) _).drewN _⟩
        case measure => simp [intOf]; omega
      · rw [hf] at d1 hnx
        generalize f' k = v' at d2 hnx
        simp only [Bool.true_or] at hnx
        have HNX := Lib.hid hnx
        clear hnx hf
        go_wp2_with fail
        refine wp_region2 [] [] (by kernel_rfl) (by kernel_rfl) ?_
        repeat (first | (refine reg_anyT (by rfl) (fun K hK => ?_); go_simp; refine hK _ _ ?_; clear hK K) | (refine reg_read (by rfl) (fun K hK => ?_); go_simp; refine hK _ _ ?_; clear hK K))
        refine reg_eff (by rfl) (fun rn K hK => ?_); go_simp; refine hK _ _ ?_; clear hK K
        repeat (first | (refine reg_anyT (by rfl) (fun K hK => ?_); go_simp; refine hK _ _ ?_; clear hK K) | (refine reg_read (by rfl) (fun K hK => ?_); go_simp; refine hK _ _ ?_; clear hK K))
        refine reg_nil (fun nd => ?_)
        go_wp2_with fail
        go_roundw
        case rel => exact ⟨k + 1, by go_num, by omega, ((HNX.out rn).drewN _), ((hm.drewN _).setCell (p := ⟨B, k, none⟩) (.inl rfl) _).drewN _⟩
        case measure => simp [intOf]; omega
    · obtain rfl : k = n := by omega
      have hfin : RSet wr (B + 1) B k (fOr f f') := hr.out.ext fun j hj => by simp [upto, hj]
      have HFIN := Lib.hid hfin
      clear hfin ha
      go_wp2_with fail
      go_ret2
      exact ⟨B + 1, B, rfl, HFIN.out, m3.new hm (by intro i hi; have := HB.out; omega), by have := HB.out; omega, by have := HB.out; omega⟩

set_option maxRecDepth 100000 in
set_option maxHeartbeats 2000000 in
theorem refJoin2 (b g b' g' n : Nat) (f f' : Nat → Bool) (w : World) (h : RSet w b g n f) (h' : RSet w b' g' n f') :
    Calls Tryd.prog 25 #[.pointer (some ⟨b, 0, none⟩), .pointer (some ⟨b', 0, none⟩), .int .i64 2] w (NewRef n (fLess f f') w) := by
  obtain ⟨i0, hi, hz0, hz1, hz2⟩ := info_parts infoBool
  have hn := h.small
  have hlt := h.lt
  have hlt' := h'.lt
  obtain ⟨c, c0⟩ := h.s0
  obtain ⟨c', c1⟩ := h'.s0
  have hmk : ∀ j, (Instr.makeSlice 67 (.int .i64 (n : Int)) (.int .i64 (n : Int))).run Tryd.prog (w.drewN j) = .ok (.slice (some ⟨w.heap.size, 0, none⟩) n n) ((w.drewN j).alloc (.cells (madeCells #[Value.bool false] n) 4)) := by
    intro j
    have := run_makeSlice (P := Tryd.prog) (w.drewN j) 67 4 i0 (.bool false) Tryd.underlying67 hi hz0 .i64 .i64 (n : Int) (n : Int) (by omega) (Int.le_refl _) (by rw [hz1]; omega) (by rw [hz2]; omega) (by omega)
    rw [hz1, Int.toNat_natCast, Nat.mul_one] at this
    exact this
  have H := Lib.hid h
  have H' := Lib.hid h'
  clear h h' hi hz0 hz1 hz2
  go_enter Tryd.func25, Tryd.ntmps25
  go_wp2_with fail
  go_quiet (fail)
  go_wp2_with fail
  have m3 : Mod (fun _ => False) w (((w.drewN nq).alloc (.cells (madeCells #[Value.bool false] n) 4)).alloc (.cells #[.slice (some ⟨w.heap.size, 0, none⟩) n n] 69)) := (((Mod.refl _ w).drewN _).alloc _).alloc _
  have hr0 : RSet (((w.drewN nq).alloc (.cells (madeCells #[Value.bool false] n) 4)).alloc (.cells #[.slice (some ⟨w.heap.size, 0, none⟩) n n] 69)) (w.heap.size + 1) w.heap.size n (upto (fLess f f') 0) := by
    refine ⟨⟨n, by have := Blk.new ((w.drewN nq).alloc (.cells (madeCells #[Value.bool false] n) 4)) #[.slice (some ⟨w.heap.size, 0, none⟩) n n] 69; simpa using this⟩, by omega, ⟨_, ((Blk.new (w.drewN nq) _ _)).alloc _, fun k hk => ?_⟩, hn⟩
    rw [made_get _ _ _ rfl hk]
    simp [upto]
  generalize (((w.drewN nq).alloc (.cells (madeCells #[Value.bool false] n) 4)).alloc (.cells #[.slice (some ⟨w.heap.size, 0, none⟩) n n] 69)) = w3 at m3 hr0 ⊢
  obtain ⟨B, hB⟩ : ∃ B, B = w.heap.size := ⟨_, rfl⟩
  rw [← hB] at hr0 hlt hlt' ⊢
  have HR0 := Lib.hid hr0
  have HB := Lib.hid hB
  clear hr0 hmk c0 c1 hB
  go_loopw [9] (fun v wr => ∃ k : Nat, v = .int .i64 k ∧ k ≤ n ∧ Hid (RSet wr (B + 1) B n (upto (fLess f f') k)) ∧ Mod (· = B) w3 wr) (fun v _ => n - (intOf v).toNat)
  case atStart => exact ⟨0, rfl, Nat.zero_le _, HR0, Mod.refl _ _⟩
  case round =>
    obtain ⟨k, rfl, hk, hr, hm⟩ := hrel
    have ha := (H.out.mod m3 (fun h => h) (fun h => h)).mod hm (by show ¬ b = B; omega) (by show ¬ g = B; omega)
    obtain ⟨ca, e0⟩ := ha.s0
    by_cases hlt0 : k < n
    · have hb := (H'.out.mod m3 (fun h => h) (fun h => h)).mod hm (by show ¬ b' = B; omega) (by show ¬ g' = B; omega)
      obtain ⟨cb, e1⟩ := hb.s0
      obtain ⟨d1, _⟩ := ha.at hlt0
      obtain ⟨d2, _⟩ := hb.at hlt0
      obtain ⟨d3, d4⟩ := hr.out.at hlt0
      obtain ⟨co, e2⟩ := hr.out.s0
      have hnx : ∀ j, RSet ((wr.drewN j).setCell ⟨B, k, none⟩ (.bool (fLess f f' k))) (B + 1) B n (upto (fLess f f') (k + 1)) := fun j =>
        (hr.out.drewN j).put k _ _ (by simp [upto]) (fun x hx => by
          unfold upto
          by_cases a : x < k
          · have : x < k + 1 := by omega
            simp [a, this]
          · have : ¬ x < k + 1 := by omega
            simp [a, this])
      have hlt1 : (k : Int) < n := by omega
      have hv : fLess f f' k = (f k && !f' k) := rfl
      rw [hv] at hnx
      clear ha hb hv
      cases hf : f k
      · rw [hf] at d1 hnx
        generalize f' k = v' at d2 hnx
        simp only [Bool.false_and] at hnx
        have HNX := Lib.hid hnx
        clear hnx hf
        go_wp2_with fail
        refine wp_region2 [] [] (by kernel_rfl) (by kernel_rfl) ?_
        repeat (first | (refine reg_anyT (by rfl) (fun K hK => ?_); go_simp; refine hK _ _ ?_; clear hK K) | (refine reg_read (by rfl) (fun K hK => ?_); go_simp; refine hK _ _ ?_; clear hK K))
        refine reg_eff (by rfl) (fun rn K hK => ?_); go_simp; refine hK _ _ ?_; clear hK K
        repeat (first | (refine reg_anyT (by rfl) (fun K hK => ?_); go_simp; refine hK _ _ ?_; clear hK K) | (refine reg_read (by rfl) (fun K hK => ?_); go_simp; refine hK _ _ ?_; clear hK K))
        refine reg_nil (fun nd => ?_)
        go_wp2_with fail
        go_roundw
        case rel => exact ⟨k + 1, by go_num, by omega, ((HNX.out rn).drewN _), ((hm.drewN _).setCell (p := ⟨B, k, none⟩) (.inl rfl) _).drewN _⟩
        case measure => simp [intOf]; omega
      · rw [hf] at d1 hnx
        generalize f' k = v' at d2 hnx
        simp only [Bool.true_and] at hnx
        have HNX := Lib.hid hnx
        clear hnx hf
        go_wp2_with fail
        refine wp_region2 [] [] (by kernel_rfl) (by kernel_rfl) ?_
        repeat (first | (refine reg_anyT (by rfl) (fun K hK => ?_); go_simp; refine hK _ _ ?_; clear hK K) | (refine reg_read (by rfl) (fun K hK => ?_); go_simp; refine hK _ _ ?_; clear hK K))
        refine reg_eff (by rfl) (fun rn K hK => ?_); go_simp; refine hK _ _ ?_; clear hK K
        repeat (first | (refine reg_anyT (by rfl) (fun K hK => ?_); go_simp; refine hK _ _ ?_; clear hK K) | (refine reg_read (by rfl) (fun K hK => ?_); go_simp; refine hK _ _ ?_; clear hK K))
        refine reg_nil (fun nd => ?_)
        go_wp2_with fail
        go_roundw
        case rel => exact ⟨k + 1, by go_num, by omega, ((HNX.out rn).drewN _), ((hm.drewN _).setCell (p := ⟨B, k, none⟩) (.inl rfl) _).drewN _⟩
        case measure => simp [intOf]; omega
    · obtain rfl : k = n := by omega
      have hfin : RSet wr (B + 1) B k (fLess f f') := hr.out.ext fun j hj => by simp [upto, hj]
      have HFIN := Lib.hid hfin
      clear hfin ha
      go_wp2_with fail
      go_ret2
      exact ⟨B + 1, B, rfl, HFIN.out, m3.new hm (by intro i hi; have := HB.out; omega), by have := HB.out; omega, by have := HB.out; omega⟩

theorem bitsAndBad (b g n : Nat) (f : Nat → Bool) (o : Option Nat) (w : World) (h : BSet w b g n f) (hbad : ∀ b', o = some b' → ∃ g' n' f', BSet w b' g' n' f' ∧ n' ≠ n) :
    Calls Tryd.prog 20 #[.pointer (some ⟨b, 0, none⟩), .pointer (o.map fun b' => ⟨b', 0, none⟩)] w fun e w' => e = .returned (.tuple #[.pointer none, .int .i64 1]) ∧ ∃ k, w' = w.drewN k := by
  have hj := joinBad 40 b g n f o w h hbad
  have HJ := Lib.hid hj
  generalize (o.map fun b' => (⟨b', 0, none⟩ : Addr)) = p at *
  clear hj h hbad
  go_enter Tryd.func20, Tryd.ntmps20
  go_wp2_with fail
  refine HJ.out.mono ?_; rintro e w' ⟨rfl, k, rfl⟩
  go_wp2_with fail
  go_ret2
  exact ⟨rfl, _, rfl⟩

theorem bitsOrBad (b g n : Nat) (f : Nat → Bool) (o : Option Nat) (w : World) (h : BSet w b g n f) (hbad : ∀ b', o = some b' → ∃ g' n' f', BSet w b' g' n' f' ∧ n' ≠ n) :
    Calls Tryd.prog 21 #[.pointer (some ⟨b, 0, none⟩), .pointer (o.map fun b' => ⟨b', 0, none⟩)] w fun e w' => e = .returned (.tuple #[.pointer none, .int .i64 1]) ∧ ∃ k, w' = w.drewN k := by
  have hj := joinBad 41 b g n f o w h hbad
  have HJ := Lib.hid hj
  generalize (o.map fun b' => (⟨b', 0, none⟩ : Addr)) = p at *
  clear hj h hbad
  go_enter Tryd.func21, Tryd.ntmps21
  go_wp2_with fail
  refine HJ.out.mono ?_; rintro e w' ⟨rfl, k, rfl⟩
  go_wp2_with fail
  go_ret2
  exact ⟨rfl, _, rfl⟩

theorem bitsLessBad (b g n : Nat) (f : Nat → Bool) (o : Option Nat) (w : World) (h : BSet w b g n f) (hbad : ∀ b', o = some b' → ∃ g' n' f', BSet w b' g' n' f' ∧ n' ≠ n) :
    Calls Tryd.prog 22 #[.pointer (some ⟨b, 0, none⟩), .pointer (o.map fun b' => ⟨b', 0, none⟩)] w fun e w' => e = .returned (.tuple #[.pointer none, .int .i64 1]) ∧ ∃ k, w' = w.drewN k := by
  have hj := joinBad 42 b g n f o w h hbad
  have HJ := Lib.hid hj
  generalize (o.map fun b' => (⟨b', 0, none⟩ : Addr)) = p at *
  clear hj h hbad
  go_enter Tryd.func22, Tryd.ntmps22
  go_wp2_with fail
  refine HJ.out.mono ?_; rintro e w' ⟨rfl, k, rfl⟩
  go_wp2_with fail
  go_ret2
  exact ⟨rfl, _, rfl⟩
end Go.Proofs.YtdfdkacnejichaaDoor
