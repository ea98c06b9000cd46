/- The reference of member: its view, New, find, Of; no condition. -/
import Derived.Test.YtagiodagbfahpaaMcG
import Derived.Test.YtagiodagbfahpaaMbR
namespace Go.Proofs.Ytagiodagbfahpaa
open Go Go.RowKit

abbrev TMs : TypeId := 22
abbrev TRw : TypeId := 56
/-- The cells of the reference's view. -/
abbrev rwC (S : Int × Rc) (most : Int) (a : Option Addr) (n cap : Nat) : Array Value := #[.int .i64 S.1, .int .i64 S.2.s, .int .i64 S.2.u, .int .i64 S.2.b, .int .i64 most, .slice a n cap]
/-- The reference's view at block b; its rows lie in blocks from 'base' on. -/
structure RW (w : World) (b base : Nat) (S : Int × Rc) (most : Int) (ks : List (Int × Rc)) : Prop where
  lt : b < base
  run : ∃ a cap, Blk w b (rwC S most a ks.length cap) TRw ∧ w.ownsRow base TMb 4 (.slice a ks.length cap) ks.length (recL ks)
theorem RW.mod {P : Nat → Prop} {w w' : World} {b base : Nat} {S : Int × Rc} {most : Int} {ks : List (Int × Rc)} (h : RW w b base S most ks) (hm : Mod P w w') (hb : ¬ P b) (hB : ∀ i, base ≤ i → ¬ P i) : RW w' b base S most ks := by
  obtain ⟨h1, a, cap, h2, h3⟩ := h
  exact ⟨h1, a, cap, h2.mod hm hb, owns_modG h3 hm hB⟩
theorem RW.new {w w' : World} {b base : Nat} {S : Int × Rc} {most : Int} {ks : List (Int × Rc)} (h : RW w b base S most ks) (hm : Mod (fun _ => False) w w') : RW w' b base S most ks := h.mod hm (fun h => h) (fun _ _ h => h)
theorem RW.drewN {w : World} {b base : Nat} {S : Int × Rc} {most : Int} {ks : List (Int × Rc)} (h : RW w b base S most ks) (n : Nat) : RW (w.drewN n) b base S most ks := h.new ((Mod.refl _ w).drewN n)
theorem RW.base {w : World} {b base base' : Nat} {S : Int × Rc} {most : Int} {ks : List (Int × Rc)} (h : RW w b base' S most ks) (h1 : b < base) (h2 : base ≤ base') : RW w b base S most ks := by
  obtain ⟨_, a, cap, h3, h4⟩ := h
  exact ⟨h1, a, cap, h3, h4.mono h2⟩
/-- What a walk is told of it. -/
theorem RW.at {w : World} {b base : Nat} {S : Int × Rc} {most : Int} {ks : List (Int × Rc)} (h : RW w b base S most ks) : ∃ a cap, w.cell? ⟨b, 4, none⟩ = some (.int .i64 most) ∧ w.cell? ⟨b, 5, none⟩ = some (.slice a ks.length cap) ∧ w.frozen? ⟨b, 5, none⟩ = false ∧
    Hid (Els w a 4 ks.length (recL ks)) ∧ Hid (Blk w b (rwC S most a ks.length cap) TRw) ∧ Hid (w.ownsRow base TMb 4 (.slice a ks.length cap) ks.length (recL ks)) ∧ ks.length ≤ cap := by
  obtain ⟨h1, a, cap, h2, h3⟩ := h
  obtain ⟨a', cap', hv, hc, he, _⟩ := h3.els
  cases hv
  exact ⟨a, cap, h2.cell 4, h2.cell 5, h2.frozen 5, he, h2, h3, hc⟩

/-- .. and its rows do not lie in block B. -/
structure RWA (w : World) (b base B : Nat) (S : Int × Rc) (most : Int) (ks : List (Int × Rc)) : Prop where
  lt : b < base
  run : ∃ a cap, Blk w b (rwC S most a ks.length cap) TRw ∧ w.ownsRow base TMb 4 (.slice a ks.length cap) ks.length (recL ks) ∧ Apart (.slice (some ⟨B, 0, none⟩) 0 0) (.slice a ks.length cap)
theorem RW.av {w w1 : World} {b base B : Nat} {S : Int × Rc} {most : Int} {ks : List (Int × Rc)} (h : RW w b base S most ks) (hm : Mod (fun _ => False) w w1) (hB : w.heap.size ≤ B) : RWA w1 b base B S most ks := by
  obtain ⟨h1, a, cap, h2, h3⟩ := h
  refine ⟨h1, a, cap, h2.mod hm (fun h => h), owns_new h3 hm, fun k e1 e2 => ?_⟩
  have := h3.lt k e2
  have hk : B = k := by simpa [Value.ownBlock] using e1
  omega
theorem RWA.rb {w : World} {b base B : Nat} {S : Int × Rc} {most : Int} {ks : List (Int × Rc)} (h : RWA w b base B S most ks) : RW w b base S most ks := by
  obtain ⟨h1, a, cap, h2, h3, _⟩ := h
  exact ⟨h1, a, cap, h2, h3⟩
theorem RWA.new {w w' : World} {b base B : Nat} {S : Int × Rc} {most : Int} {ks : List (Int × Rc)} (h : RWA w b base B S most ks) (hm : Mod (fun _ => False) w w') : RWA w' b base B S most ks := by
  obtain ⟨h1, a, cap, h2, h3, h4⟩ := h
  exact ⟨h1, a, cap, h2.mod hm (fun h => h), owns_new h3 hm, h4⟩
theorem RWA.set {w w' : World} {b base B : Nat} {S : Int × Rc} {most : Int} {ks : List (Int × Rc)} (h : RWA w b base B S most ks) (hm : Mod (· = B) w w') (hb : ¬ b = B) : RWA w' b base B S most ks := by
  obtain ⟨h1, a, cap, h2, h3, h4⟩ := h
  refine ⟨h1, a, cap, h2.mod hm hb, owns_apart h3 (hm.mono fun k _ e => ?_) h4, h4⟩
  show (Value.slice (some ⟨B, 0, none⟩) 0 0).ownBlock = some k
  rw [e]
  rfl

theorem refMoment (n : Int) (w : World) : Calls Try.prog 55 #[.int .i64 n] w fun e w' => e = .returned (.bool (decide (0 ≤ n) && decide (n ≤ 1099511627776))) ∧ w = w' := by
  by_cases h1 : 0 ≤ n
  · go_enter Try.func55, Try.ntmps55
    go_wp2_with fail
    go_ret
    exact ⟨by simp [h1], rfl⟩
  · have h2 : decide (0 ≤ n) = false := by simpa using h1
    go_enter Try.func55, Try.ntmps55
    go_wp2_with fail
    go_ret
    exact ⟨by simp, rfl⟩

set_option maxRecDepth 100000 in
set_option maxHeartbeats 400000 in
theorem refVNew (self most : Int) (w : World) (h : ViewOk self most) :
    Calls Try.prog 21 #[.int .i64 self, .int .i64 most] w fun e w' => e = .returned (.tuple #[.pointer (some ⟨w.heap.size, 0, none⟩), .int .i64 0]) ∧ RW w' w.heap.size (w.heap.size + 1) (self, ⟨0, 1, 0⟩) most [] ∧ Mod (fun _ => False) w w' ∧ w'.heap.size = w.heap.size + 1 := by
  obtain ⟨h1, h2, h3, h4⟩ := h
  have e1 := in_yes (n := self) (lo := 1) (hi := 65536) ⟨h1, h2⟩
  have g5 : ¬ most < 1 := by omega
  have g6 : ¬ 64 < most := by omega
  clear h1 h2
  go_enter Try.func21, Try.ntmps21
  go_wp2_with fail
  refine (refId _ _).mono ?_; rw [e1]; rintro e w' ⟨rfl, rfl⟩
  clear e1
  go_wp2_with fail
  go_ret2
  exact ⟨rfl, ⟨Nat.lt_succ_self _, none, 0, Blk.new w _ _, World.ownsRow_nil _ _ _ _⟩, (Mod.refl _ w).alloc _, by simp⟩
set_option maxRecDepth 100000 in
set_option maxHeartbeats 400000 in
theorem refVNewBad (self most : Int) (w : World) (h : ¬ ViewOk self most) :
    Calls Try.prog 21 #[.int .i64 self, .int .i64 most] w fun e w' => e = .returned (.tuple #[.pointer none, .int .i64 1]) ∧ w = w' := by
  have HB := Lib.hid h
  clear h
  by_cases h1 : 1 ≤ self ∧ self ≤ 65536
  · have e1 := in_yes h1
    have H1 := Lib.hid h1
    clear h1
    go_enter Try.func21, Try.ntmps21
    go_wp2_with fail
    refine (refId _ _).mono ?_; rw [e1]; rintro e w' ⟨rfl, rfl⟩
    clear e1
    go_wp2_with fail
    all_goals first | (go_ret2; exact ⟨rfl, rfl⟩) | (exfalso; apply HB.out; have := H1.out; unfold ViewOk; omega)
  · have e1 := in_no h1
    clear h1
    go_enter Try.func21, Try.ntmps21
    go_wp2_with fail
    refine (refId _ _).mono ?_; rw [e1]; rintro e w' ⟨rfl, rfl⟩
    clear e1
    go_wp2_with fail
    go_ret2
    exact ⟨rfl, rfl⟩

theorem lk_none_all {α : Type} {ks : List (Int × α)} {p : Int} (h : ∀ (i : Nat) (q : Int × α), ks[i]? = some q → q.1 ≠ p) : lkL ks p = none := by
  unfold lkL
  rw [List.find?_eq_none.2]
  · rfl
  · intro q hq
    obtain ⟨i, hi⟩ := List.getElem?_of_mem hq
    simpa using h i q hi
/-- What find tells. -/
def FindP (ks : List (Int × Rc)) (id v : Int) : Prop := (v = -1 ∧ lkL ks id = none) ∨ ∃ (i : Nat) (r : Rc), v = i ∧ ks[i]? = some (id, r)

set_option maxRecDepth 100000 in
set_option maxHeartbeats 1000000 in
theorem refVFind (id : Int) (b base : Nat) (S : Int × Rc) (most : Int) (ks : List (Int × Rc)) (w : World) (h : RW w b base S most ks) (hlen : ks.length ≤ 1000) :
    Calls Try.prog 41 #[.pointer (some ⟨b, 0, none⟩), .int .i64 id] w fun e w' => (∃ v, e = .returned (.int .i64 v) ∧ FindP ks id v) ∧ w = w' := by
  obtain ⟨a, cap, _, c3, _, he, _, _, _⟩ := h.at
  clear h
  go_enter Try.func41, Try.ntmps41
  go_wp2_with fail
  go_loopw [5] (fun v wr => ∃ k : Nat, v = .int .i64 k ∧ k ≤ ks.length ∧ Hid (∀ (j : Nat) (q : Int × Rc), j < k → ks[j]? = some q → q.1 ≠ id) ∧ wr = w) (fun v _ => ks.length - (intOf v).toNat)
  case atStart => exact ⟨0, rfl, Nat.zero_le _, fun j q h => absurd h (Nat.not_lt_zero _), rfl⟩
  case round =>
    obtain ⟨k, rfl, hk, hno, rfl⟩ := hrel
    by_cases hlt : (k : Int) < ks.length
    · obtain ⟨⟨x, r⟩, hkr⟩ : ∃ q, ks[k]? = some q := ⟨_, List.getElem?_eq_getElem (by omega)⟩
      obtain ⟨X, rfl, p0, p1, p2, p3⟩ := recEl he.out (Nat.le_refl _) hkr
      by_cases e : x = id
      · have HK := Lib.hid hkr
        have e' : (x == id) = true := by simpa using e
        have HX := Lib.hid e
        clear hkr e
        go_wp2_with fail
        go_ret
        exact ⟨⟨_, rfl, .inr ⟨k, r, rfl, by rw [← HX.out]; exact HK.out⟩⟩, rfl⟩
      · have e' : (x == id) = false := by simpa using e
        have HN : Hid (∀ (j : Nat) (q : Int × Rc), j < k + 1 → ks[j]? = some q → q.1 ≠ id) := by
          intro j q hj hq
          by_cases ej : j = k
          · subst ej
            rw [hkr] at hq
            cases hq
            exact e
          · exact hno.out j q (by omega) hq
        clear hkr e
        go_wp2_with fail
        exact ⟨⟨k + 1, by go_num, by omega, HN, by first | trivial | rfl⟩, by simp [intOf]; omega⟩
    · have hl : lkL ks id = none := lk_none_all fun i q hi => hno.out i q (by have := (List.getElem?_eq_some_iff.1 hi).1; omega) hi
      have HL := Lib.hid hl
      clear hl
      go_wp2_with fail
      go_ret
      exact ⟨⟨_, rfl, .inl ⟨rfl, HL.out⟩⟩, rfl⟩

theorem rd_at {ks : List (Int × Rc)} (hr : Rising ks) {i : Nat} {id : Int} {r : Rc} (h : ks[i]? = some (id, r)) : rd ks id = r := by
  unfold rd
  rw [lk_of_mem hr (List.mem_of_getElem? h)]
  rfl

set_option maxRecDepth 100000 in
set_option maxHeartbeats 1000000 in
theorem refVOf (id : Int) (b base : Nat) (S : Int × Rc) (most : Int) (ks : List (Int × Rc)) (w : World) (h : RW w b base S most ks) (hlen : ks.length ≤ 1000) (hr : Rising ks) :
    Calls Try.prog 23 #[.pointer (some ⟨b, 0, none⟩), .int .i64 id] w fun e w' => e = .returned (.tuple #[.agg #[.int .i64 (idf ks id), .int .i64 (rd ks id).s, .int .i64 (rd ks id).u, .int .i64 (rd ks id).b], .bool (lkL ks id).isSome]) ∧ Mod (fun _ => False) w w' := by
  have m1 : Mod (fun _ => False) w (w.alloc (.cells #[.int .i64 0, .int .i64 0, .int .i64 0, .int .i64 0] TMb)) := (Mod.refl _ w).alloc _
  have R1 := Lib.hid (h.new m1)
  have B1 := Lib.hid (Blk.new w #[.int .i64 0, .int .i64 0, .int .i64 0, .int .i64 0] TMb)
  have M1 := Lib.hid m1
  have HF := Lib.hid (refVFind id b base S most ks _ R1.out hlen)
  have HR := Lib.hid hr
  clear h hr m1
  go_enter Try.func23, Try.ntmps23
  go_wp2_with fail
  generalize w.alloc (.cells #[.int .i64 0, .int .i64 0, .int .i64 0, .int .i64 0] TMb) = w1 at *
  refine HF.out.mono ?_; rintro e w' ⟨⟨v, rfl, hv⟩, rfl⟩
  obtain ⟨a, cap, _, c3, _, he, _, _, _⟩ := R1.out.at
  obtain ⟨B, hB⟩ : ∃ B, B = w.heap.size := ⟨_, rfl⟩
  rw [← hB] at B1 ⊢
  have HB := Lib.hid (Nat.le_of_eq hB.symm)
  clear hB
  have f0 := B1.out.frozen 0; have f1 := B1.out.frozen 1; have f2 := B1.out.frozen 2; have f3 := B1.out.frozen 3
  have x0 := B1.out.cell 0; have x1 := B1.out.cell 1; have x2 := B1.out.cell 2; have x3 := B1.out.cell 3
  rcases hv with ⟨rfl, hn⟩ | ⟨i, r, rfl, hi⟩
  · have HN := Lib.hid hn
    have D := Lib.hid ((((B1.out.set 0 (.int .i64 0)).set 1 (.int .i64 0)).set 2 (.int .i64 0)).set 3 (.int .i64 0))
    clear hn
    go_wp2_with fail
    refine bodyPost_ret (v := .tuple #[.agg #[.int .i64 0, .int .i64 0, .int .i64 0, .int .i64 0], .bool false]) (by simp [results, Try.results23, go_sem, D.out.cell]) rfl ⟨by unfold rd idf; rw [HN.out]; rfl, ?_⟩
    exact (((M1.out.setCell (p := ⟨B, 0, none⟩) (.inr HB.out) _).setCell (p := ⟨B, 1, none⟩) (.inr HB.out) _).setCell (p := ⟨B, 2, none⟩) (.inr HB.out) _).setCell (p := ⟨B, 3, none⟩) (.inr HB.out) _
  · have hl := lk_of_mem HR.out (List.mem_of_getElem? hi)
    have HL := Lib.hid hl
    obtain ⟨X, rfl, p0, p1, p2, p3⟩ := recEl he.out (Nat.le_refl _) hi
    have hil : (i : Int) < ks.length := by have := (List.getElem?_eq_some_iff.1 hi).1; omega
    have D := Lib.hid ((((B1.out.set 0 (.int .i64 id)).set 1 (.int .i64 r.s)).set 2 (.int .i64 r.u)).set 3 (.int .i64 r.b))
    clear hl hi
    go_wp2_with fail
    refine bodyPost_ret (v := .tuple #[.agg #[.int .i64 id, .int .i64 r.s, .int .i64 r.u, .int .i64 r.b], .bool true]) (by simp [results, Try.results23, go_sem, D.out.cell]) rfl ⟨by unfold rd idf; rw [HL.out]; rfl, ?_⟩
    exact (((M1.out.setCell (p := ⟨B, 0, none⟩) (.inr HB.out) _).setCell (p := ⟨B, 1, none⟩) (.inr HB.out) _).setCell (p := ⟨B, 2, none⟩) (.inr HB.out) _).setCell (p := ⟨B, 3, none⟩) (.inr HB.out) _
end Go.Proofs.Ytagiodagbfahpaa
