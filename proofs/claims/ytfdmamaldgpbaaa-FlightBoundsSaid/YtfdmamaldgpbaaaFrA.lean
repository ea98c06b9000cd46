/- The reference of flight: its table, New, Of, Many, Same; no condition. -/
import Derived.Test.YtfdmamaldgpbaaaFlG
import Derived.Test.YtfdmamaldgpbaaaEls
namespace Go.Proofs.Ytfdmamaldgpbaaa
open Go Go.RowKit

abbrev TRq : TypeId := 41
/-- The reference's table at block b; its rows lie in blocks from 'base' on. -/
structure RT (w : World) (b base : Nat) (most each pat : Int) (ks : List (Int × Rq)) : Prop where
  lt : b < base
  run : ∃ a cap, Blk w b #[.int .i64 most, .int .i64 each, .int .i64 pat, .slice a ks.length cap] 39 ∧ w.ownsRow base TRq 3 (.slice a ks.length cap) ks.length (rqL ks)
theorem RT.mod {S : Nat → Prop} {w w' : World} {b base : Nat} {most each pat : Int} {ks : List (Int × Rq)} (h : RT w b base most each pat ks) (hm : Mod S w w') (hb : ¬ S b) (hB : ∀ i, base ≤ i → ¬ S i) : RT w' b base most each pat ks := by
  obtain ⟨h1, a, cap, h2, h3⟩ := h
  exact ⟨h1, a, cap, h2.mod hm hb, owns_mod h3 hm hB⟩
theorem RT.new {w w' : World} {b base : Nat} {most each pat : Int} {ks : List (Int × Rq)} (h : RT w b base most each pat ks) (hm : Mod (fun _ => False) w w') : RT w' b base most each pat ks := h.mod hm (fun h => h) (fun _ _ h => h)
theorem RT.drewN {w : World} {b base : Nat} {most each pat : Int} {ks : List (Int × Rq)} (h : RT w b base most each pat ks) (n : Nat) : RT (w.drewN n) b base most each pat ks := h.new ((Mod.refl _ w).drewN n)
/-- What a walk is told of it. -/
theorem RT.at {w : World} {b base : Nat} {most each pat : Int} {ks : List (Int × Rq)} (h : RT w b base most each pat ks) : ∃ a cap, w.cell? ⟨b, 0, none⟩ = some (.int .i64 most) ∧ w.cell? ⟨b, 1, none⟩ = some (.int .i64 each) ∧ w.cell? ⟨b, 2, none⟩ = some (.int .i64 pat) ∧ w.cell? ⟨b, 3, none⟩ = some (.slice a ks.length cap) ∧ w.frozen? ⟨b, 3, none⟩ = false ∧
    Hid (Els w a 3 ks.length (rqL ks)) ∧ Hid (Blk w b #[.int .i64 most, .int .i64 each, .int .i64 pat, .slice a ks.length cap] 39) ∧ Hid (w.ownsRow base TRq 3 (.slice a ks.length cap) ks.length (rqL ks)) := by
  obtain ⟨h1, a, cap, h2, h3⟩ := h
  obtain ⟨a', cap', hv, _, he, _⟩ := h3.els
  cases hv
  exact ⟨a, cap, h2.cell 0, h2.cell 1, h2.cell 2, h2.cell 3, h2.frozen 3, he, h2, h3⟩
/-- The three cells of a row. -/
theorem rqEl {w : World} {a : Option Addr} {n : Nat} {ks : List (Int × Rq)} (h : Els w a 3 n (rqL ks)) (hn : ks.length ≤ n) {i : Nat} {x : Int} {r : Rq} (hi : ks[i]? = some (x, r)) :
    ∃ X, a = some X ∧ w.cell? (X.add (i * 3)) = some (.int .i64 r.p) ∧ w.cell? ⟨(X.add (i * 3)).block, (X.add (i * 3)).off + 1, none⟩ = some (.int .i64 x) ∧ w.cell? ⟨(X.add (i * 3)).block, (X.add (i * 3)).off + 2, none⟩ = some (.int .i64 r.t) := by
  have hl := (List.getElem?_eq_some_iff.1 hi).1
  obtain ⟨X, rfl, h1, h2⟩ := h i (by omega)
  exact ⟨X, rfl, h1 _ (rqL_get ks i 0 x r hi (by decide)), h2 1 _ (rqL_get ks i 1 x r hi (by decide)) (by decide), h2 2 _ (rqL_get ks i 2 x r hi (by decide)) (by decide)⟩

theorem refMoment (n : Int) (w : World) : Calls Try.prog 33 #[.int .i64 n] w fun e w' => e = .returned (.bool (decide (0 ≤ n) && decide (n ≤ 1099511627776))) ∧ w = w' := by
  by_cases h1 : 0 ≤ n
  · go_enter Try.func33, Try.ntmps33
    go_wp2_with fail
    go_ret
    exact ⟨by simp [h1], rfl⟩
  · have h2 : decide (0 ≤ n) = false := by simpa using h1
    go_enter Try.func33, Try.ntmps33
    go_wp2_with fail
    go_ret
    exact ⟨by simp, rfl⟩
theorem refLife (n : Int) (w : World) : Calls Try.prog 23 #[.int .i64 n] w fun e w' => e = .returned (.bool (decide (1 ≤ n) && decide (n ≤ 1048576))) ∧ w = w' := by
  by_cases h1 : 1 ≤ n
  · go_enter Try.func23, Try.ntmps23
    go_wp2_with fail
    go_ret
    exact ⟨by simp [h1], rfl⟩
  · have h2 : decide (1 ≤ n) = false := by simpa using h1
    go_enter Try.func23, Try.ntmps23
    go_wp2_with fail
    go_ret
    exact ⟨by simp, rfl⟩
theorem alloc_cells (w : World) (cs : Array Value) (t : TypeId) : ∀ j, (w.alloc (.cells cs t)).cell? ⟨w.heap.size, j, none⟩ = cs[j]? := (Blk.new w cs t).cell

set_option maxRecDepth 100000 in
set_option maxHeartbeats 400000 in
theorem refNew (most each pat : Int) (w : World) (h : NewOk most each pat) :
    Calls Try.prog 10 #[.int .i64 most, .int .i64 each, .int .i64 pat] w fun e w' => e = .returned (.tuple #[.pointer (some ⟨w.heap.size, 0, none⟩), .int .i64 0]) ∧ RT w' w.heap.size (w.heap.size + 1) most each pat [] ∧ Mod (fun _ => False) w w' ∧ w'.heap.size = w.heap.size + 1 := by
  obtain ⟨h1, h2, h3, h4, h5, h6⟩ := h
  have e3 : (decide (1 ≤ pat) && decide (pat ≤ 1048576)) = true := by simp [h5, h6]
  have g1 : ¬ most < 1 := by omega
  have g2 : ¬ 256 < most := by omega
  have g3 : ¬ each < 1 := by omega
  have g4 : ¬ most < each := by omega
  go_enter Try.func10, Try.ntmps10
  go_wp2_with fail
  refine (refLife _ _).mono ?_; rw [e3]; rintro e w' ⟨rfl, rfl⟩
  go_wp2_with fail
  go_ret2
  exact ⟨rfl, ⟨Nat.lt_succ_self _, none, 0, Blk.new w _ _, World.ownsRow_nil _ _ _ _⟩, (Mod.refl _ w).alloc _, by simp⟩
set_option maxRecDepth 100000 in
set_option maxHeartbeats 400000 in
theorem refNewBad (most each pat : Int) (w : World) (h : ¬ NewOk most each pat) :
    Calls Try.prog 10 #[.int .i64 most, .int .i64 each, .int .i64 pat] w fun e w' => e = .returned (.tuple #[.pointer none, .int .i64 1]) ∧ w = w' := by
  have HB := Lib.hid h
  by_cases hl : 1 ≤ pat ∧ pat ≤ 1048576
  · have hL : (decide (1 ≤ pat) && decide (pat ≤ 1048576)) = true := by simp [hl.1, hl.2]
    have HL := Lib.hid hl
    clear h hl
    go_enter Try.func10, Try.ntmps10
    go_wp2_with fail
    refine (refLife _ _).mono ?_; rw [hL]; rintro e w' ⟨rfl, rfl⟩
    clear hL
    go_wp2_with fail
    all_goals first | (go_ret2; exact ⟨rfl, rfl⟩) | (exfalso; apply HB.out; have := HL.out; unfold NewOk; omega)
  · have hL : (decide (1 ≤ pat) && decide (pat ≤ 1048576)) = false := by
      rw [Bool.and_eq_false_iff, decide_eq_false_iff_not, decide_eq_false_iff_not]; omega
    clear h hl
    go_enter Try.func10, Try.ntmps10
    go_wp2_with fail
    refine (refLife _ _).mono ?_; rw [hL]; rintro e w' ⟨rfl, rfl⟩
    clear hL
    go_wp2_with fail
    all_goals (go_ret2; exact ⟨rfl, rfl⟩)

/-- The first k rows have no such piece. -/
theorem lk_none_take {α : Type} {ks : List (Int × α)} {p : Int} (h : ∀ (i : Nat) (q : Int × α), ks[i]? = some q → q.1 ≠ p) : lkL ks p = none := by
  unfold lkL
  rw [List.find?_eq_none.2]
  · rfl
  · intro q hq
    obtain ⟨i, hi⟩ := List.getElem?_of_mem hq
    simpa using h i q hi

set_option maxRecDepth 100000 in
set_option maxHeartbeats 1000000 in
theorem refOf (p : Int) (b base : Nat) (most each pat : Int) (ks : List (Int × Rq)) (w : World) (h : RT w b base most each pat ks) (hlen : ks.length ≤ 100000) (hr : Rising ks) :
    Calls Try.prog 15 #[.pointer (some ⟨b, 0, none⟩), .int .i64 p] w fun e w' => e = .returned (.tuple #[rqAt ks p, .bool (lkL ks p).isSome]) ∧ Mod (fun _ => False) w w' := by
  obtain ⟨a, cap, _, _, _, c3, _, he, _, _⟩ := h.at
  have HR := Lib.hid hr
  have hb : b < w.heap.size := World.block_lt_of_cell? w _ c3
  clear h hr
  go_enter Try.func15, Try.ntmps15
  go_wp2_with fail
  have m1 : Mod (fun _ => False) w (w.alloc (.cells #[.int .i64 0, .int .i64 0, .int .i64 0] TRq)) := (Mod.refl _ w).alloc _
  have hlt : w.heap.size < (w.alloc (.cells #[.int .i64 0, .int .i64 0, .int .i64 0] TRq)).heap.size := by simp
  have B1 := Lib.hid (Blk.new w #[.int .i64 0, .int .i64 0, .int .i64 0] TRq)
  have E1 := Lib.hid (he.out.new m1)
  have k3 := m1.cell c3 (fun h => h)
  have M1 := Lib.hid m1
  generalize w.alloc (.cells #[.int .i64 0, .int .i64 0, .int .i64 0] TRq) = w1 at *
  obtain ⟨B, hB⟩ : ∃ B, B = w.heap.size := ⟨_, rfl⟩
  rw [← hB] at B1 hb hlt ⊢
  have HB := Lib.hid hB
  clear he hB c3 m1
  go_loopw [6] (fun v wr => ∃ k : Nat, v = .int .i64 k ∧ k ≤ ks.length ∧ Hid (∀ (j : Nat) (q : Int × Rq), j < k → ks[j]? = some q → q.1 ≠ p) ∧ wr = w1) (fun v _ => ks.length - (intOf v).toNat)
  case atStart => exact ⟨0, rfl, Nat.zero_le _, fun j q h => absurd h (Nat.not_lt_zero _), rfl⟩
  case round =>
    obtain ⟨k, rfl, hk, hno, rfl⟩ := hrel
    by_cases hlt : (k : Int) < ks.length
    · obtain ⟨⟨x, r⟩, hkr⟩ : ∃ q, ks[k]? = some q := ⟨_, List.getElem?_eq_getElem (by omega)⟩
      obtain ⟨X, rfl, p0, p1, p2⟩ := rqEl E1.out (Nat.le_refl _) hkr
      by_cases e : x = p
      · subst e
        have hl := lk_of_mem HR.out (List.mem_of_getElem? hkr)
        have HL := Lib.hid hl
        have f0 := B1.out.frozen 0; have f1 := B1.out.frozen 1; have f2 := B1.out.frozen 2
        have x0 := B1.out.cell 0; have x1 := B1.out.cell 1; have x2 := B1.out.cell 2
        have d0 := (B1.out.set 0 (.int .i64 r.p)).cell 0
        have d1 := ((B1.out.set 0 (.int .i64 r.p)).set 1 (.int .i64 x)).cell 1
        have d2 := (((B1.out.set 0 (.int .i64 r.p)).set 1 (.int .i64 x)).set 2 (.int .i64 r.t)).cell 2
        have D0 := Lib.hid d0; have D1 := Lib.hid d1; have D2 := Lib.hid d2
        clear d0 d1 d2 hl hkr
        go_wp2_with fail
        refine bodyPost_ret (v := .tuple #[.agg #[.int .i64 r.p, .int .i64 x, .int .i64 r.t], .bool true]) (by simp [results, Try.results15, go_sem, D0.out, D1.out, D2.out]) rfl ⟨by unfold rqAt; rw [HL.out]; rfl, ?_⟩
        exact ((M1.out.setCell (.inr (Nat.le_of_eq HB.out.symm)) _).setCell (.inr (Nat.le_of_eq HB.out.symm)) _).setCell (.inr (Nat.le_of_eq HB.out.symm)) _
      · have e' : (x == p) = false := by simpa using e
        have HN : Hid (∀ (j : Nat) (q : Int × Rq), j < k + 1 → ks[j]? = some q → q.1 ≠ p) := by
          intro j q hj hq
          by_cases ej : j = k
          · subst ej
            rw [hkr] at hq
            cases hq
            exact e
          · exact hno.out j q (by omega) hq
        clear hkr e
        go_wp2_with fail
        exact ⟨⟨k + 1, by go_num, by omega, HN, by first | trivial | rfl⟩, by simp [intOf]; omega⟩
    · have hl : lkL ks p = none := lk_none_take fun i q hi => hno.out i q (by have := (List.getElem?_eq_some_iff.1 hi).1; omega) hi
      have HL := Lib.hid hl
      have f0 := B1.out.frozen 0; have f1 := B1.out.frozen 1; have f2 := B1.out.frozen 2
      have x0 := B1.out.cell 0; have x1 := B1.out.cell 1; have x2 := B1.out.cell 2
      have d0 := (B1.out.set 0 (.int .i64 0)).cell 0
      have d1 := ((B1.out.set 0 (.int .i64 0)).set 1 (.int .i64 0)).cell 1
      have d2 := (((B1.out.set 0 (.int .i64 0)).set 1 (.int .i64 0)).set 2 (.int .i64 0)).cell 2
      have D0 := Lib.hid d0; have D1 := Lib.hid d1; have D2 := Lib.hid d2
      clear d0 d1 d2 hl
      go_wp2_with fail
      refine bodyPost_ret (v := .tuple #[.agg #[.int .i64 0, .int .i64 0, .int .i64 0], .bool false]) (by simp [results, Try.results15, go_sem, D0.out, D1.out, D2.out]) rfl ⟨by unfold rqAt; rw [HL.out]; rfl, ?_⟩
      exact ((M1.out.setCell (.inr (Nat.le_of_eq HB.out.symm)) _).setCell (.inr (Nat.le_of_eq HB.out.symm)) _).setCell (.inr (Nat.le_of_eq HB.out.symm)) _

/-- Do two lists agree? What Same tells, if they do. -/
theorem rq_inj {q : Int × Rq} {q' : Int × Rq} (h1 : q.2.p = q'.2.p) (h2 : q.1 = q'.1) (h3 : q.2.t = q'.2.t) : q = q' := by
  obtain ⟨k, p, t⟩ := q
  obtain ⟨k', p', t'⟩ := q'
  simp only at h1 h2 h3
  rw [h1, h2, h3]

set_option maxRecDepth 100000 in
set_option maxHeartbeats 1000000 in
theorem refMany (p : Int) (b base : Nat) (most each pat : Int) (ks : List (Int × Rq)) (w : World) (h : RT w b base most each pat ks) (hlen : ks.length ≤ 100000) :
    Calls Try.prog 17 #[.pointer (some ⟨b, 0, none⟩), .int .i64 p] w fun e w' => e = .returned (.int .i64 (many ks p)) ∧ w = w' := by
  obtain ⟨a, cap, _, _, _, c3, _, he, _, _⟩ := h.at
  clear h
  go_enter Try.func17, Try.ntmps17
  go_wp2_with fail
  go_loopw [5, 6] (fun n v wr => ∃ (k c : Nat), v = .int .i64 k ∧ n = .int .i64 c ∧ k ≤ ks.length ∧ c ≤ k ∧ Hid (c = many (ks.take k) p) ∧ wr = w) (fun _ v _ => ks.length - (intOf v).toNat)
  case atStart => exact ⟨0, 0, rfl, rfl, Nat.zero_le _, Nat.le_refl _, rfl, rfl⟩
  case round =>
    obtain ⟨k, c, rfl, rfl, hk, hck, hc, rfl⟩ := hrel
    by_cases hlt : (k : Int) < ks.length
    · obtain ⟨⟨x, r⟩, hkr⟩ : ∃ q, ks[k]? = some q := ⟨_, List.getElem?_eq_getElem (by omega)⟩
      obtain ⟨X, rfl, p0, p1, p2⟩ := rqEl he.out (Nat.le_refl _) hkr
      have hm : many (ks.take (k + 1)) p = many (ks.take k) p + if r.p = p then 1 else 0 := by
        unfold many
        rw [filter_take _ ks k (x, r) hkr, List.length_append]
        by_cases e : r.p = p <;> simp [e]
      have HM := Lib.hid hm
      clear hm hkr
      by_cases e : r.p = p
      · have e' : (r.p == p) = true := by simpa using e
        go_wp2_with fail
        exact ⟨⟨k + 1, c + 1, by go_num, by go_num, by omega, by omega, (by rw [HM.out, if_pos e, ← hc.out] : c + 1 = many (ks.take (k + 1)) p), by first | trivial | rfl⟩, by simp [intOf]; omega⟩
      · have e' : (r.p == p) = false := by simpa using e
        go_wp2_with fail
        exact ⟨⟨k + 1, c, by go_num, rfl, by omega, by omega, (by rw [HM.out, if_neg e, ← hc.out]; rfl : c = many (ks.take (k + 1)) p), by first | trivial | rfl⟩, by simp [intOf]; omega⟩
    · have hkn : k = ks.length := by omega
      have hF : c = many ks p := by rw [hc.out, hkn, List.take_length]
      have HF := Lib.hid hF
      clear hkn hF
      go_wp2_with fail
      go_ret
      exact ⟨by rw [HF.out]; rfl, rfl⟩
end Go.Proofs.Ytfdmamaldgpbaaa
