/- The reference of strikes: its book, New, find, Banned, Of, Ids; no condition. -/
import Derived.Test.YtiabjaaamgjlnaaStrH
namespace Go.Proofs.Ytiabjaaamgjlnaa
open Go Go.RowKit

abbrev TKn : TypeId := 49
abbrev TKs : TypeId := 63
theorem owns_new {w w' : World} {base : Nat} {e : TypeId} {size : Nat} {v : Value} {n : Nat} {xs : List Value} (h : w.ownsRow base e size v n xs) (hm : Mod (fun _ => False) w w') : w'.ownsRow base e size v n xs := owns_modG h hm fun _ _ h => h
/-- The reference's book at block b; its rows lie in blocks from 'base' on. -/
structure RB (w : World) (b base : Nat) (lim ban most : Int) (ks : List (Int × Rc)) : Prop where
  lt : b < base
  run : ∃ a cap, Blk w b #[.int .i64 lim, .int .i64 ban, .int .i64 most, .slice a ks.length cap] 65 ∧ w.ownsRow base TKn 4 (.slice a ks.length cap) ks.length (recL ks)
theorem RB.mod {S : Nat → Prop} {w w' : World} {b base : Nat} {lim ban most : Int} {ks : List (Int × Rc)} (h : RB w b base lim ban most ks) (hm : Mod S w w') (hb : ¬ S b) (hB : ∀ i, base ≤ i → ¬ S i) : RB w' b base lim ban most ks := by
  obtain ⟨h1, a, cap, h2, h3⟩ := h
  exact ⟨h1, a, cap, h2.mod hm hb, owns_modG h3 hm hB⟩
theorem RB.new {w w' : World} {b base : Nat} {lim ban most : Int} {ks : List (Int × Rc)} (h : RB w b base lim ban most ks) (hm : Mod (fun _ => False) w w') : RB w' b base lim ban most ks := h.mod hm (fun h => h) (fun _ _ h => h)
theorem RB.drewN {w : World} {b base : Nat} {lim ban most : Int} {ks : List (Int × Rc)} (h : RB w b base lim ban most ks) (n : Nat) : RB (w.drewN n) b base lim ban most ks := h.new ((Mod.refl _ w).drewN n)
theorem RB.base {w : World} {b base base' : Nat} {lim ban most : Int} {ks : List (Int × Rc)} (h : RB w b base' lim ban most ks) (h1 : b < base) (h2 : base ≤ base') : RB w b base lim ban most ks := by
  obtain ⟨_, a, cap, h3, h4⟩ := h
  exact ⟨h1, a, cap, h3, h4.mono h2⟩
/-- What a walk is told of it. -/
theorem RB.at {w : World} {b base : Nat} {lim ban most : Int} {ks : List (Int × Rc)} (h : RB w b base lim ban most ks) : ∃ a cap, w.cell? ⟨b, 0, none⟩ = some (.int .i64 lim) ∧ w.cell? ⟨b, 1, none⟩ = some (.int .i64 ban) ∧ w.cell? ⟨b, 2, none⟩ = some (.int .i64 most) ∧ w.cell? ⟨b, 3, none⟩ = some (.slice a ks.length cap) ∧ w.frozen? ⟨b, 3, none⟩ = false ∧
    Hid (Els w a 4 ks.length (recL ks)) ∧ Hid (Blk w b #[.int .i64 lim, .int .i64 ban, .int .i64 most, .slice a ks.length cap] 65) ∧ Hid (w.ownsRow base TKn 4 (.slice a ks.length cap) ks.length (recL ks)) ∧ ks.length ≤ cap := by
  obtain ⟨h1, a, cap, h2, h3⟩ := h
  obtain ⟨a', cap', hv, hc, he, _⟩ := h3.els
  cases hv
  exact ⟨a, cap, h2.cell 0, h2.cell 1, h2.cell 2, h2.cell 3, h2.frozen 3, he, h2, h3, hc⟩

/-- .. and its rows do not lie in block B. -/
structure RBA (w : World) (b base B : Nat) (lim ban most : Int) (ks : List (Int × Rc)) : Prop where
  lt : b < base
  run : ∃ a cap, Blk w b #[.int .i64 lim, .int .i64 ban, .int .i64 most, .slice a ks.length cap] 65 ∧ w.ownsRow base TKn 4 (.slice a ks.length cap) ks.length (recL ks) ∧ Apart (.slice (some ⟨B, 0, none⟩) 0 0) (.slice a ks.length cap)
theorem RB.av {w w1 : World} {b base B : Nat} {lim ban most : Int} {ks : List (Int × Rc)} (h : RB w b base lim ban most ks) (hm : Mod (fun _ => False) w w1) (hB : w.heap.size ≤ B) : RBA w1 b base B lim ban most ks := by
  obtain ⟨h1, a, cap, h2, h3⟩ := h
  refine ⟨h1, a, cap, h2.mod hm (fun h => h), owns_new h3 hm, fun k e1 e2 => ?_⟩
  have := h3.lt k e2
  have hk : B = k := by simpa [Value.ownBlock] using e1
  omega
theorem RB.av2 {w : World} {b base base' B : Nat} {lim ban most : Int} {ks : List (Int × Rc)} (h : RB w b base' lim ban most ks) (hB : B < base') (hb : b < base) (hbb : base ≤ base') : RBA w b base B lim ban most ks := by
  obtain ⟨h1, a, cap, h2, h3⟩ := h
  refine ⟨hb, a, cap, h2, h3.mono hbb, fun k e1 e2 => ?_⟩
  have := h3.lt k e2
  have hk : B = k := by simpa [Value.ownBlock] using e1
  omega
theorem RBA.rb {w : World} {b base B : Nat} {lim ban most : Int} {ks : List (Int × Rc)} (h : RBA w b base B lim ban most ks) : RB w b base lim ban most ks := by
  obtain ⟨h1, a, cap, h2, h3, _⟩ := h
  exact ⟨h1, a, cap, h2, h3⟩
theorem RBA.new {w w' : World} {b base B : Nat} {lim ban most : Int} {ks : List (Int × Rc)} (h : RBA w b base B lim ban most ks) (hm : Mod (fun _ => False) w w') : RBA w' b base B lim ban most ks := by
  obtain ⟨h1, a, cap, h2, h3, h4⟩ := h
  exact ⟨h1, a, cap, h2.mod hm (fun h => h), owns_new h3 hm, h4⟩
theorem RBA.set {w w' : World} {b base B : Nat} {lim ban most : Int} {ks : List (Int × Rc)} (h : RBA w b base B lim ban most ks) (hm : Mod (· = B) w w') (hb : ¬ b = B) : RBA w' b base B lim ban most ks := by
  obtain ⟨h1, a, cap, h2, h3, h4⟩ := h
  refine ⟨h1, a, cap, h2.mod hm hb, owns_apart h3 (hm.mono fun k _ e => ?_) h4, h4⟩
  show (Value.slice (some ⟨B, 0, none⟩) 0 0).ownBlock = some k
  rw [e]
  rfl

theorem refId (n : Int) (w : World) : Calls Try.prog 41 #[.int .i64 n] w fun e w' => e = .returned (.bool (decide (1 ≤ n) && decide (n ≤ 65536))) ∧ w = w' := by
  by_cases h1 : 1 ≤ n
  · go_enter Try.func41, Try.ntmps41
    go_wp2_with fail
    go_ret
    exact ⟨by simp [h1], rfl⟩
  · have h2 : decide (1 ≤ n) = false := by simpa using h1
    go_enter Try.func41, Try.ntmps41
    go_wp2_with fail
    go_ret
    exact ⟨by simp, rfl⟩
theorem refMoment (n : Int) (w : World) : Calls Try.prog 42 #[.int .i64 n] w fun e w' => e = .returned (.bool (decide (0 ≤ n) && decide (n ≤ 1099511627776))) ∧ w = w' := by
  by_cases h1 : 0 ≤ n
  · go_enter Try.func42, Try.ntmps42
    go_wp2_with fail
    go_ret
    exact ⟨by simp [h1], rfl⟩
  · have h2 : decide (0 ≤ n) = false := by simpa using h1
    go_enter Try.func42, Try.ntmps42
    go_wp2_with fail
    go_ret
    exact ⟨by simp, rfl⟩

/-- May there be such a book? -/
def BookOk (lim ban most : Int) : Prop := 1 ≤ lim ∧ lim ≤ 100 ∧ 1 ≤ ban ∧ ban ≤ 1048576 ∧ 1 ≤ most ∧ most ≤ 64
instance (a b c : Int) : Decidable (BookOk a b c) := by unfold BookOk; infer_instance
set_option maxRecDepth 100000 in
set_option maxHeartbeats 400000 in
theorem refNew (lim ban most : Int) (w : World) (h : BookOk lim ban most) :
    Calls Try.prog 17 #[.int .i64 lim, .int .i64 ban, .int .i64 most] w fun e w' => e = .returned (.tuple #[.pointer (some ⟨w.heap.size, 0, none⟩), .int .i64 0]) ∧ RB w' w.heap.size (w.heap.size + 1) lim ban most [] ∧ Mod (fun _ => False) w w' ∧ w'.heap.size = w.heap.size + 1 := by
  obtain ⟨h1, h2, h3, h4, h5, h6⟩ := h
  have g1 : ¬ lim < 1 := by omega
  have g2 : ¬ 100 < lim := by omega
  have g3 : ¬ ban < 1 := by omega
  have g4 : ¬ 1048576 < ban := by omega
  have g5 : ¬ most < 1 := by omega
  have g6 : ¬ 64 < most := by omega
  go_enter Try.func17, Try.ntmps17
  go_wp2_with fail
  go_ret2
  exact ⟨rfl, ⟨Nat.lt_succ_self _, none, 0, Blk.new w _ _, World.ownsRow_nil _ _ _ _⟩, (Mod.refl _ w).alloc _, by simp⟩
set_option maxRecDepth 100000 in
set_option maxHeartbeats 400000 in
theorem refNewBad (lim ban most : Int) (w : World) (h : ¬ BookOk lim ban most) :
    Calls Try.prog 17 #[.int .i64 lim, .int .i64 ban, .int .i64 most] w fun e w' => e = .returned (.tuple #[.pointer none, .int .i64 1]) ∧ w = w' := by
  have HB := Lib.hid h
  clear h
  go_enter Try.func17, Try.ntmps17
  go_wp2_with fail
  all_goals first | (go_ret2; exact ⟨rfl, rfl⟩) | (exfalso; apply HB.out; unfold BookOk; omega)

theorem lk_none_all {α : Type} {ks : List (Int × α)} {p : Int} (h : ∀ (i : Nat) (q : Int × α), ks[i]? = some q → q.1 ≠ p) : lkL ks p = none := by
  unfold lkL
  rw [List.find?_eq_none.2]
  · rfl
  · intro q hq
    obtain ⟨i, hi⟩ := List.getElem?_of_mem hq
    simpa using h i q hi
/-- What find tells. -/
def FindP (ks : List (Int × Rc)) (id v : Int) : Prop := (v = -1 ∧ lkL ks id = none) ∨ ∃ (i : Nat) (r : Rc), v = i ∧ ks[i]? = some (id, r)

set_option maxRecDepth 100000 in
set_option maxHeartbeats 1000000 in
theorem refFind (id : Int) (b base : Nat) (lim ban most : Int) (ks : List (Int × Rc)) (w : World) (h : RB w b base lim ban most ks) (hlen : ks.length ≤ 1000) :
    Calls Try.prog 30 #[.pointer (some ⟨b, 0, none⟩), .int .i64 id] w fun e w' => (∃ v, e = .returned (.int .i64 v) ∧ FindP ks id v) ∧ w = w' := by
  obtain ⟨a, cap, _, _, _, c3, _, he, _, _, _⟩ := h.at
  clear h
  go_enter Try.func30, Try.ntmps30
  go_wp2_with fail
  go_loopw [5] (fun v wr => ∃ k : Nat, v = .int .i64 k ∧ k ≤ ks.length ∧ Hid (∀ (j : Nat) (q : Int × Rc), j < k → ks[j]? = some q → q.1 ≠ id) ∧ wr = w) (fun v _ => ks.length - (intOf v).toNat)
  case atStart => exact ⟨0, rfl, Nat.zero_le _, fun j q h => absurd h (Nat.not_lt_zero _), rfl⟩
  case round =>
    obtain ⟨k, rfl, hk, hno, rfl⟩ := hrel
    by_cases hlt : (k : Int) < ks.length
    · obtain ⟨⟨x, r⟩, hkr⟩ : ∃ q, ks[k]? = some q := ⟨_, List.getElem?_eq_getElem (by omega)⟩
      obtain ⟨X, rfl, p0, p1, p2, p3⟩ := recEl he.out (Nat.le_refl _) hkr
      by_cases e : x = id
      · have HK := Lib.hid hkr
        have e' : (x == id) = true := by simpa using e
        have HX := Lib.hid e
        clear hkr e
        go_wp2_with fail
        go_ret
        exact ⟨⟨_, rfl, .inr ⟨k, r, rfl, by rw [← HX.out]; exact HK.out⟩⟩, rfl⟩
      · have e' : (x == id) = false := by simpa using e
        have HN : Hid (∀ (j : Nat) (q : Int × Rc), j < k + 1 → ks[j]? = some q → q.1 ≠ id) := by
          intro j q hj hq
          by_cases ej : j = k
          · subst ej
            rw [hkr] at hq
            cases hq
            exact e
          · exact hno.out j q (by omega) hq
        clear hkr e
        go_wp2_with fail
        exact ⟨⟨k + 1, by go_num, by omega, HN, by first | trivial | rfl⟩, by simp [intOf]; omega⟩
    · have hl : lkL ks id = none := lk_none_all fun i q hi => hno.out i q (by have := (List.getElem?_eq_some_iff.1 hi).1; omega) hi
      have HL := Lib.hid hl
      clear hl
      go_wp2_with fail
      go_ret
      exact ⟨⟨_, rfl, .inl ⟨rfl, HL.out⟩⟩, rfl⟩

theorem rd_at {ks : List (Int × Rc)} (hr : Rising ks) {i : Nat} {id : Int} {r : Rc} (h : ks[i]? = some (id, r)) : rd ks id = r := by
  unfold rd
  rw [lk_of_mem hr (List.mem_of_getElem? h)]
  rfl

set_option maxRecDepth 100000 in
set_option maxHeartbeats 1000000 in
theorem refBanned (id now : Int) (b base : Nat) (lim ban most : Int) (ks : List (Int × Rc)) (w : World) (h : RB w b base lim ban most ks) (hlen : ks.length ≤ 1000) (hr : Rising ks) :
    Calls Try.prog 22 #[.pointer (some ⟨b, 0, none⟩), .int .i64 id, .int .i64 now] w fun e w' => e = .returned (.bool (bnd ks id now)) ∧ w = w' := by
  obtain ⟨a, cap, _, _, _, c3, _, he, _, _, _⟩ := h.at
  have HF := Lib.hid (refFind id b base lim ban most ks w h hlen)
  have HR := Lib.hid hr
  clear h hr
  go_enter Try.func22, Try.ntmps22
  go_wp2_with fail
  refine HF.out.mono ?_; rintro e w' ⟨⟨v, rfl, hv⟩, rfl⟩
  rcases hv with ⟨rfl, hn⟩ | ⟨i, r, rfl, hi⟩
  · have HN := Lib.hid hn
    clear hn
    go_wp2_with fail
    go_ret
    exact ⟨by unfold bnd rd; rw [HN.out]; rfl, rfl⟩
  · have hd := rd_at HR.out hi
    have HD := Lib.hid hd
    obtain ⟨X, rfl, p0, p1, p2, p3⟩ := recEl he.out (Nat.le_refl _) hi
    have hil : (i : Int) < ks.length := by have := (List.getElem?_eq_some_iff.1 hi).1; omega
    have hbn : bnd ks id now = (decide (0 < r.u) && decide (now < r.u)) := by unfold bnd; rw [hd]
    have HB := Lib.hid hbn
    clear hd hi hbn
    by_cases hu : 0 < r.u
    · go_wp2_with fail
      go_ret
      exact ⟨by rw [HB.out]; simp [hu], rfl⟩
    · have hu' : decide (0 < r.u) = false := by simpa using hu
      go_wp2_with fail
      go_ret
      exact ⟨by rw [HB.out]; simp; omega, rfl⟩

set_option maxRecDepth 100000 in
set_option maxHeartbeats 1000000 in
theorem refOf (id : Int) (b base : Nat) (lim ban most : Int) (ks : List (Int × Rc)) (w : World) (h : RB w b base lim ban most ks) (hlen : ks.length ≤ 1000) (hr : Rising ks) :
    Calls Try.prog 21 #[.pointer (some ⟨b, 0, none⟩), .int .i64 id] w fun e w' => e = .returned (.agg #[.int .i64 (idf ks id), .int .i64 (rd ks id).s, .int .i64 (rd ks id).u, .int .i64 (rd ks id).b]) ∧ Mod (fun _ => False) w w' := by
  have m1 : Mod (fun _ => False) w (w.alloc (.cells #[.int .i64 0, .int .i64 0, .int .i64 0, .int .i64 0] TKn)) := (Mod.refl _ w).alloc _
  have R1 := Lib.hid (h.new m1)
  have B1 := Lib.hid (Blk.new w #[.int .i64 0, .int .i64 0, .int .i64 0, .int .i64 0] TKn)
  have M1 := Lib.hid m1
  have HF := Lib.hid (refFind id b base lim ban most ks _ R1.out hlen)
  have HR := Lib.hid hr
  clear h hr m1
  go_enter Try.func21, Try.ntmps21
  go_wp2_with fail
  generalize w.alloc (.cells #[.int .i64 0, .int .i64 0, .int .i64 0, .int .i64 0] TKn) = w1 at *
  refine HF.out.mono ?_; rintro e w' ⟨⟨v, rfl, hv⟩, rfl⟩
  obtain ⟨a, cap, _, _, _, c3, _, he, _, _, _⟩ := R1.out.at
  obtain ⟨B, hB⟩ : ∃ B, B = w.heap.size := ⟨_, rfl⟩
  rw [← hB] at B1 ⊢
  have HB := Lib.hid (Nat.le_of_eq hB.symm)
  clear hB
  have f0 := B1.out.frozen 0; have f1 := B1.out.frozen 1; have f2 := B1.out.frozen 2; have f3 := B1.out.frozen 3
  have x0 := B1.out.cell 0; have x1 := B1.out.cell 1; have x2 := B1.out.cell 2; have x3 := B1.out.cell 3
  rcases hv with ⟨rfl, hn⟩ | ⟨i, r, rfl, hi⟩
  · have HN := Lib.hid hn
    have D := Lib.hid ((((B1.out.set 0 (.int .i64 0)).set 1 (.int .i64 0)).set 2 (.int .i64 0)).set 3 (.int .i64 0))
    clear hn
    go_wp2_with fail
    refine bodyPost_ret (v := .agg #[.int .i64 0, .int .i64 0, .int .i64 0, .int .i64 0]) (by simp [results, Try.results21, go_sem, D.out.cell]) rfl ⟨by unfold rd idf; rw [HN.out]; rfl, ?_⟩
    exact (((M1.out.setCell (p := ⟨B, 0, none⟩) (.inr HB.out) _).setCell (p := ⟨B, 1, none⟩) (.inr HB.out) _).setCell (p := ⟨B, 2, none⟩) (.inr HB.out) _).setCell (p := ⟨B, 3, none⟩) (.inr HB.out) _
  · have hl := lk_of_mem HR.out (List.mem_of_getElem? hi)
    have HL := Lib.hid hl
    obtain ⟨X, rfl, p0, p1, p2, p3⟩ := recEl he.out (Nat.le_refl _) hi
    have hil : (i : Int) < ks.length := by have := (List.getElem?_eq_some_iff.1 hi).1; omega
    have D := Lib.hid ((((B1.out.set 0 (.int .i64 id)).set 1 (.int .i64 r.s)).set 2 (.int .i64 r.u)).set 3 (.int .i64 r.b))
    clear hl hi
    go_wp2_with fail
    refine bodyPost_ret (v := .agg #[.int .i64 id, .int .i64 r.s, .int .i64 r.u, .int .i64 r.b]) (by simp [results, Try.results21, go_sem, D.out.cell]) rfl ⟨by unfold rd idf; rw [HL.out]; rfl, ?_⟩
    exact (((M1.out.setCell (p := ⟨B, 0, none⟩) (.inr HB.out) _).setCell (p := ⟨B, 1, none⟩) (.inr HB.out) _).setCell (p := ⟨B, 2, none⟩) (.inr HB.out) _).setCell (p := ⟨B, 3, none⟩) (.inr HB.out) _
end Go.Proofs.Ytiabjaaamgjlnaa
