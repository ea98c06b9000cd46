/- The steps of the laws on bits, at a set and at the reference's; no condition. -/
import Derived.Test.YtdfdkacnejichaaDoorRefB
namespace Go.Proofs.YtdfdkacnejichaaDoor
open Go Go.RowKit Go.IntWalk

/-- A step. -/
structure St where
  d : Int
  i : Int
  j : Int
  one : Bool
def stV (t : St) : Value := .agg #[.int .i64 t.d, .int .i64 t.i, .int .i64 t.j, .bool t.one]
/-- What a step leaves of n places. -/
def stF (n : Nat) (f : Nat → Bool) (t : St) : Nat → Bool :=
  if t.d = 0 then (if 0 ≤ t.i ∧ t.i < n then fil f t.i.toNat (t.i.toNat + 1) t.one else f)
  else if t.d = 1 then (if 0 ≤ t.i ∧ t.i ≤ t.j ∧ t.j ≤ n then fil f t.i.toNat t.j.toNat t.one else f)
  else f

/-- A set and the reference's, alike. -/
structure Two (w : World) (b g b' g' n : Nat) (f : Nat → Bool) : Prop where
  s : BSet w b g n f
  r : RSet w b' g' n f
  n1 : g ≠ g'
  n2 : g ≠ b'
  n3 : g' ≠ b
  t1 : gTab ≠ g
  t2 : gTab ≠ g'
theorem Two.mod {S : Nat → Prop} {w w' : World} {b g b' g' n : Nat} {f : Nat → Bool} (h : Two w b g b' g' n f) (hm : Mod S w w') (h1 : ¬ S b) (h2 : ¬ S g) (h3 : ¬ S b') (h4 : ¬ S g') : Two w' b g b' g' n f :=
  ⟨h.s.mod hm h1 h2, h.r.mod hm h3 h4, h.n1, h.n2, h.n3, h.t1, h.t2⟩
theorem Two.new {w w' : World} {b g b' g' n : Nat} {f : Nat → Bool} (h : Two w b g b' g' n f) (hm : Mod (fun _ => False) w w') : Two w' b g b' g' n f := h.mod hm (fun h => h) (fun h => h) (fun h => h) (fun h => h)
theorem Two.drewN {w : World} {b g b' g' n : Nat} {f : Nat → Bool} (h : Two w b g b' g' n f) (k : Nat) : Two (w.drewN k) b g b' g' n f := ⟨h.s.drewN k, h.r.drewN k, h.n1, h.n2, h.n3, h.t1, h.t2⟩
abbrev TS (g g' : Nat) : Nat → Prop := fun k => k = g ∨ k = g'

set_option maxRecDepth 100000 in
set_option maxHeartbeats 1000000 in
theorem stepAny (t : St) (b g b' g' n : Nat) (f : Nat → Bool) (w : World) (h : Two w b g b' g' n f) (hT : TabW w) :
    Calls Tryd.prog 30 #[.pointer (some ⟨b, 0, none⟩), .pointer (some ⟨b', 0, none⟩), stV t] w fun e w' => e = .returned (.bool true) ∧ Two w' b g b' g' n (stF n f t) ∧ Mod (TS g g') w w' := by
  obtain ⟨d, i, j, one⟩ := t
  unfold stV
  dsimp only
  have m1 : Mod (fun _ => False) w (w.alloc (.cells #[.int .i64 d, .int .i64 i, .int .i64 j, .bool one] 33)) := (Mod.refl _ w).alloc _
  have h1 := h.new m1
  have hT1 := hT.mod m1 (fun h => h)
  have hx := Blk.new w #[.int .i64 d, .int .i64 i, .int .i64 j, .bool one] 33
  have hlt : g < w.heap.size ∧ g' < w.heap.size := ⟨h.s.lt.2, h.r.lt.2⟩
  obtain ⟨w1, hw1⟩ : ∃ w1, w1 = w.alloc (.cells #[.int .i64 d, .int .i64 i, .int .i64 j, .bool one] 33) := ⟨_, rfl⟩
  rw [← hw1] at m1 h1 hT1 hx
  have c0 := hx.cell 0; have c1 := hx.cell 1; have c2 := hx.cell 2; have c3 := hx.cell 3
  obtain ⟨B, hB⟩ : ∃ B, B = w.heap.size := ⟨_, rfl⟩
  rw [← hB] at c0 c1 c2 c3 hlt
  have HT := Lib.hid hT1
  have HW1 := Lib.hid hw1
  have HBB := Lib.hid hB
  have H1 := Lib.hid h1
  have hsm := h.s.small
  clear h hT hT1 hx h1

  by_cases d0 : d = 0
  · subst d0
    by_cases hin : 0 ≤ i ∧ i < n
    · obtain ⟨k, rfl⟩ : ∃ k : Nat, i = k := ⟨i.toNat, by omega⟩
      have hkn : k < n := by omega
      have hF : stF n f ⟨0, k, j, one⟩ = fil f k (k + 1) one := by unfold stF; simp [hin]
      rw [hF]
      clear hF hin
      clear hw1 hB
      go_enter Tryd.func30, Tryd.ntmps30
      go_wp2_with fail
      rw [← HW1.out, ← HBB.out]
      refine (bitsPut _ _ _ _ _ _ _ H1.out.s hkn).mono ?_; rintro e w2 ⟨rfl, s2, m2⟩
      have e0 := m2.cell c0 (by show ¬ B = g; omega); have e1 := m2.cell c1 (by show ¬ B = g; omega); have e2 := m2.cell c2 (by show ¬ B = g; omega); have e3 := m2.cell c3 (by show ¬ B = g; omega)
      have r2 := H1.out.r.mod m2 (Ne.symm H1.out.n2) (Ne.symm H1.out.n1)
      have S2 := Lib.hid s2
      clear s2
      go_wp2_with fail
      refine (refPut _ _ _ _ _ _ _ r2 hkn).mono ?_; rintro e w3 ⟨rfl, r3, m3⟩
      have R3 := Lib.hid r3
      clear r2 r3
      go_wp2_with fail
      go_ret
      exact ⟨rfl, ⟨S2.out.mod m3 (Ne.symm H1.out.n3) H1.out.n1, R3.out, H1.out.n1, H1.out.n2, H1.out.n3, H1.out.t1, H1.out.t2⟩, ((m1.mono (fun _ _ h => h.elim)).trans (m2.mono (fun _ _ h => .inl h))).trans (m3.mono (fun _ _ h => .inr h))⟩
    · have hbad : i < 0 ∨ (n : Int) ≤ i := by omega
      have hF : stF n f ⟨0, i, j, one⟩ = f := by unfold stF; simp only [if_true]; rw [if_neg hin]
      rw [hF]
      clear hF hin
      clear hw1 hB
      go_enter Tryd.func30, Tryd.ntmps30
      go_wp2_with fail
      rw [← HW1.out, ← HBB.out]
      refine (bitsPutBad _ _ _ _ _ _ _ H1.out.s hbad).mono ?_; rintro e w2 ⟨rfl, rfl⟩
      go_wp2_with fail
      refine (refPutBad _ _ _ _ _ _ _ H1.out.r hbad).mono ?_; rintro e w3 ⟨rfl, rfl⟩
      go_wp2_with fail
      go_ret
      exact ⟨rfl, H1.out, m1.mono (fun _ _ h => h.elim)⟩
  · by_cases d1 : d = 1
    · subst d1
      by_cases hin : 0 ≤ i ∧ i ≤ j ∧ j ≤ n
      · obtain ⟨k, rfl⟩ : ∃ k : Nat, i = k := ⟨i.toNat, by omega⟩
        obtain ⟨l, rfl⟩ : ∃ k : Nat, j = k := ⟨j.toNat, by omega⟩
        have hkn : k ≤ l := by omega
        have hln : l ≤ n := by omega
        have hF : stF n f ⟨1, k, l, one⟩ = fil f k l one := by unfold stF; simp [hkn, hln]
        rw [hF]
        clear hF hin
        clear hw1 hB
        go_enter Tryd.func30, Tryd.ntmps30
        go_wp2_with fail
        rw [← HW1.out, ← HBB.out]
        refine (bitsFill _ _ _ _ _ _ _ _ H1.out.s hkn hln).mono ?_; rintro e w2 ⟨rfl, s2, m2⟩
        have e0 := m2.cell c0 (by show ¬ B = g; omega); have e1 := m2.cell c1 (by show ¬ B = g; omega); have e2 := m2.cell c2 (by show ¬ B = g; omega); have e3 := m2.cell c3 (by show ¬ B = g; omega)
        have r2 := H1.out.r.mod m2 (Ne.symm H1.out.n2) (Ne.symm H1.out.n1)
        have S2 := Lib.hid s2
        clear s2
        go_wp2_with fail
        refine (refFill _ _ _ _ _ _ _ _ r2 hkn hln).mono ?_; rintro e w3 ⟨rfl, r3, m3⟩
        have R3 := Lib.hid r3
        clear r2 r3
        go_wp2_with fail
        go_ret
        exact ⟨rfl, ⟨S2.out.mod m3 (Ne.symm H1.out.n3) H1.out.n1, R3.out, H1.out.n1, H1.out.n2, H1.out.n3, H1.out.t1, H1.out.t2⟩, ((m1.mono (fun _ _ h => h.elim)).trans (m2.mono (fun _ _ h => .inl h))).trans (m3.mono (fun _ _ h => .inr h))⟩
      · have hbad : i < 0 ∨ j < i ∨ (n : Int) < j := by omega
        have hF : stF n f ⟨1, i, j, one⟩ = f := by unfold stF; rw [if_neg (show ¬ (1 : Int) = 0 by decide)]; simp only [if_true]; rw [if_neg hin]
        rw [hF]
        clear hF hin
        clear hw1 hB
        go_enter Tryd.func30, Tryd.ntmps30
        go_wp2_with fail
        rw [← HW1.out, ← HBB.out]
        refine (bitsFillBad _ _ _ _ _ _ _ _ H1.out.s hbad).mono ?_; rintro e w2 ⟨rfl, rfl⟩
        go_wp2_with fail
        refine (refFillBad _ _ _ _ _ _ _ _ H1.out.r hbad).mono ?_; rintro e w3 ⟨rfl, rfl⟩
        go_wp2_with fail
        go_ret
        exact ⟨rfl, H1.out, m1.mono (fun _ _ h => h.elim)⟩
    · have hF : stF n f ⟨d, i, j, one⟩ = f := by unfold stF; simp only; rw [if_neg d0, if_neg d1]
      rw [hF]
      clear hF
      clear hw1 hB
      have d0' : (d == 0) = false := by simpa using d0
      have d1' : (d == 1) = false := by simpa using d1
      by_cases d2 : d = 2
      · subst d2
        go_enter Tryd.func30, Tryd.ntmps30
        go_wp2_with fail
        rw [← HW1.out, ← HBB.out]
        refine (bitsNext _ _ _ _ _ _ _ H1.out.s HT.out).mono ?_; rintro e w2 ⟨rfl, rfl⟩
        go_wp2_with fail
        refine (refNext _ _ _ _ _ _ _ H1.out.r).mono ?_; rintro e w3 ⟨rfl, rfl⟩
        go_wp2_with fail
        go_ret
        exact ⟨rfl, H1.out, m1.mono (fun _ _ h => h.elim)⟩
      · have d2' : (d == 2) = false := by simpa using d2
        go_enter Tryd.func30, Tryd.ntmps30
        go_wp2_with fail
        rw [← HW1.out, ← HBB.out]
        refine (bitsHas _ _ _ _ _ _ H1.out.s).mono ?_; rintro e w2 ⟨rfl, rfl⟩
        go_wp2_with fail
        refine (refHas _ _ _ _ _ _ H1.out.r H1.out.s.out).mono ?_; rintro e w3 ⟨rfl, rfl⟩
        go_wp2_with fail
        go_ret
        exact ⟨rfl, H1.out, m1.mono (fun _ _ h => h.elim)⟩
end Go.Proofs.YtdfdkacnejichaaDoor
