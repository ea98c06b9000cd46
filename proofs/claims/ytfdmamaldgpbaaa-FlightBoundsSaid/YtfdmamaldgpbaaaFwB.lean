/- The laws on flight: a step at both; no condition. -/
import Derived.Test.YtfdmamaldgpbaaaFwA
namespace Go.Proofs.Ytfdmamaldgpbaaa
open Go Go.RowKit

/-- A step as it comes in. -/
structure St where
  d : Int
  p : Int
  k : Int
  t : Int
def stV (s : St) : Value := .agg #[.int .i64 s.d, .int .i64 s.p, .int .i64 s.k, .int .i64 s.t]
def mom (t : Int) : Prop := 0 ≤ t ∧ t ≤ 1099511627776
instance (t : Int) : Decidable (mom t) := inferInstanceAs (Decidable (_ ∧ _))
/-- What a step leaves. -/
def stepK (most each pat : Int) (ks : List (Int × Rq)) (s : St) : List (Int × Rq) :=
  if s.d = 0 then askK most each ks s.p s.k s.t
  else if s.d = 1 then delL ks s.k
  else if s.d = 2 then ks.filter fun x => !(x.2.p == s.p)
  else if mom s.t then ks.filter fun x => !decide (pat ≤ s.t - x.2.t) else ks
theorem Okk.step {most each : Int} {ks : List (Int × Rq)} (h : Okk most each ks) (pat : Int) (s : St) : Okk most each (stepK most each pat ks s) := by
  unfold stepK
  split
  · exact h.ask _ _ _
  · split
    · exact h.del _
    · split
      · exact h.filter _
      · split
        · exact h.filter _
        · exact h
abbrev TM (M b' : Nat) : Nat → Prop := fun i => i = M ∨ i = b'

section
variable {w : World} {b M : Nat} {most each pat : Int} {ks : List (Int × Rq)} {b' base : Nat} {most' each' pat' : Int} {ks' : List (Int × Rq)}
/-- What the statements hold of both tables. -/
structure Both (w : World) (b M : Nat) (most each pat : Int) (ks : List (Int × Rq)) (b' base : Nat) (most' each' pat' : Int) (ks' : List (Int × Rq)) : Prop where
  two : Two w b M most each pat ks b' base most' each' pat' ks'
  ok : Okk most each ks
  ok' : Okk most' each' ks'
  small : most ≤ 256
  small' : most' ≤ 256
theorem Both.new {w' : World} (h : Both w b M most each pat ks b' base most' each' pat' ks') (hm : Mod (fun _ => False) w w') : Both w' b M most each pat ks b' base most' each' pat' ks' := ⟨h.two.new hm, h.ok, h.ok', h.small, h.small'⟩
theorem Both.len (h : Both w b M most each pat ks b' base most' each' pat' ks') : ks.length ≤ 256 ∧ ks'.length ≤ 256 := by
  have := h.ok.len; have := h.ok'.len; have := h.small; have := h.small'
  omega
end

def StepP (same : Prop) (b M : Nat) (most each pat : Int) (ks : List (Int × Rq)) (b' base : Nat) (most' each' pat' : Int) (ks' : List (Int × Rq)) (s : St) (w : World) (e : Ending) (w' : World) : Prop :=
  (∃ B : Bool, e = .returned (.bool B) ∧ (same → B = true)) ∧ Both w' b M most each pat (stepK most each pat ks s) b' base most' each' pat' (stepK most' each' pat' ks' s) ∧ Mod (TM M b') w w'
abbrev SameT (most each pat : Int) (ks : List (Int × Rq)) (most' each' pat' : Int) (ks' : List (Int × Rq)) : Prop := most = most' ∧ each = each' ∧ pat = pat' ∧ ks = ks'

set_option maxRecDepth 100000 in
set_option maxHeartbeats 2000000 in
theorem stepAsk (s : St) (hd : s.d = 0) (b M : Nat) (most each pat : Int) (ks : List (Int × Rq)) (b' base : Nat) (most' each' pat' : Int) (ks' : List (Int × Rq)) (w : World) (h : Both w b M most each pat ks b' base most' each' pat' ks') (hk : I64 s.k) :
    Calls Try.prog 11 #[.pointer (some ⟨b, 0, none⟩), .pointer (some ⟨b', 0, none⟩), stV s] w (StepP (SameT most each pat ks most' each' pat' ks') b M most each pat ks b' base most' each' pat' ks' s w) := by
  obtain ⟨d, p, k, t⟩ := s
  simp only at hd hk
  subst hd
  have hE : ∀ m e q l, stepK m e q l ⟨0, p, k, t⟩ = askK m e l p k t := fun _ _ _ _ => rfl
  unfold StepP stV
  rw [hE, hE]
  dsimp only
  have m1 : Mod (fun _ => False) w (w.alloc (.cells #[.int .i64 0, .int .i64 p, .int .i64 k, .int .i64 t] 34)) := (Mod.refl _ w).alloc _
  have H1 := Lib.hid (h.new m1)
  have X1 := Lib.hid (Blk.new w #[.int .i64 0, .int .i64 p, .int .i64 k, .int .i64 t] 34)
  have HK := Lib.hid hk
  have hl := h.len
  obtain ⟨w1, hw1⟩ : ∃ w1, w1 = w.alloc (.cells #[.int .i64 0, .int .i64 p, .int .i64 k, .int .i64 t] 34) := ⟨_, rfl⟩
  have hx1 : M < w.heap.size ∧ b' < w.heap.size := ⟨h.two.t.lt.2, by have := h.two.r.lt; have := h.two.n5; omega⟩
  rw [← hw1] at H1 X1 m1
  have c0 := X1.out.cell 0; have c1 := X1.out.cell 1; have c2 := X1.out.cell 2; have c3 := X1.out.cell 3
  have M1 := Lib.hid m1
  have HW := Lib.hid hw1
  clear h hE hk m1 hw1
  go_enter Try.func11, Try.ntmps11
  go_wp2_with fail
  rw [← HW.out]
  refine (flAsk p k t b M most each pat ks w1 HK.out H1.out.two.t (by omega)).mono ?_; rintro e w2 ⟨rfl, t2, m2⟩
  have T2 := Lib.hid (H1.out.two.tmod m2 t2)
  have M2 := Lib.hid m2
  have d0 := m2.cell c0 (by show ¬ w.heap.size = M; omega); have d1 := m2.cell c1 (by show ¬ w.heap.size = M; omega); have d2 := m2.cell c2 (by show ¬ w.heap.size = M; omega); have d3 := m2.cell c3 (by show ¬ w.heap.size = M; omega)
  clear t2 m2
  go_wp2_with fail
  refine (refAsk p k t b' base most' each' pat' ks' w2 T2.out.r (by omega) H1.out.ok'.rising T2.out.n5).mono ?_; rintro e w3 ⟨rfl, r3, m3⟩
  have T3 := Lib.hid (T2.out.rmod m3 r3)
  have M3 := Lib.hid m3
  clear r3 m3
  go_wp2_with fail
  go_ret
  refine ⟨⟨askE most each ks p k t == askE most' each' ks' p k t, rfl, fun ⟨h1, h2, h3, h4⟩ => by rw [h1, h2, h4]; simp⟩, ⟨T3.out, H1.out.ok.ask _ _ _, H1.out.ok'.ask _ _ _, H1.out.small, H1.out.small'⟩, ?_⟩
  exact ((M1.out.mono (fun _ _ h => h.elim)).trans (M2.out.mono (fun _ _ h => .inl h))).trans (M3.out.mono (fun _ _ h => .inr h))

set_option maxRecDepth 100000 in
set_option maxHeartbeats 2000000 in
theorem stepDone (s : St) (hd : s.d = 1) (b M : Nat) (most each pat : Int) (ks : List (Int × Rq)) (b' base : Nat) (most' each' pat' : Int) (ks' : List (Int × Rq)) (w : World) (h : Both w b M most each pat ks b' base most' each' pat' ks') (hk : I64 s.k) :
    Calls Try.prog 11 #[.pointer (some ⟨b, 0, none⟩), .pointer (some ⟨b', 0, none⟩), stV s] w (StepP (SameT most each pat ks most' each' pat' ks') b M most each pat ks b' base most' each' pat' ks' s w) := by
  obtain ⟨d, p, k, t⟩ := s
  simp only at hd hk
  subst hd
  have hE : ∀ m e q l, stepK m e q l ⟨1, p, k, t⟩ = delL l k := fun _ _ _ _ => rfl
  unfold StepP stV
  rw [hE, hE]
  dsimp only
  have m1 : Mod (fun _ => False) w (w.alloc (.cells #[.int .i64 1, .int .i64 p, .int .i64 k, .int .i64 t] 34)) := (Mod.refl _ w).alloc _
  have H1 := Lib.hid (h.new m1)
  have X1 := Lib.hid (Blk.new w #[.int .i64 1, .int .i64 p, .int .i64 k, .int .i64 t] 34)
  have HK := Lib.hid hk
  have hl := h.len
  obtain ⟨w1, hw1⟩ : ∃ w1, w1 = w.alloc (.cells #[.int .i64 1, .int .i64 p, .int .i64 k, .int .i64 t] 34) := ⟨_, rfl⟩
  have hx1 : M < w.heap.size ∧ b' < w.heap.size := ⟨h.two.t.lt.2, by have := h.two.r.lt; have := h.two.n5; omega⟩
  rw [← hw1] at H1 X1 m1
  have c0 := X1.out.cell 0; have c1 := X1.out.cell 1; have c2 := X1.out.cell 2; have c3 := X1.out.cell 3
  have M1 := Lib.hid m1
  have HW := Lib.hid hw1
  obtain ⟨x0, x1, x2, hx⟩ := rqAt_agg ks k
  obtain ⟨y0, y1, y2, hy⟩ := rqAt_agg ks' k
  have HX := Lib.hid hx; have HY := Lib.hid hy
  have hxl : w.heap.size < w1.heap.size := X1.out.lt
  clear h hE hk m1 hw1 hx hy
  go_enter Try.func11, Try.ntmps11
  go_wp2_with fail
  rw [← HW.out]
  refine (flDone k b M most each pat ks w1 HK.out H1.out.two.t).mono ?_; rw [HX.out]; rintro e w2 ⟨rfl, t2, m2⟩
  have T2 := Lib.hid (H1.out.two.tmod m2 t2)
  have M2 := Lib.hid m2
  have d0 := m2.cell c0 (by show ¬ w.heap.size = M; omega); have d1 := m2.cell c1 (by show ¬ w.heap.size = M; omega); have d2 := m2.cell c2 (by show ¬ w.heap.size = M; omega); have d3 := m2.cell c3 (by show ¬ w.heap.size = M; omega)
  have z2 : w.heap.size < w2.heap.size := Nat.lt_of_lt_of_le hxl m2.size
  have zb : b' < w2.heap.size := by omega
  clear t2 m2
  go_wp2_with fail
  have ma := (Mod.refl (fun _ => False) w2).alloc (.cells #[.int .i64 x0, .int .i64 x1, .int .i64 x2] TRq)
  have TA := Lib.hid (T2.out.new ma)
  have XA := Lib.hid (Blk.new w2 #[.int .i64 x0, .int .i64 x1, .int .i64 x2] TRq)
  refine (refDone k b' base most' each' pat' ks' _ TA.out.r (by omega) H1.out.ok'.rising TA.out.n5).mono ?_; rw [HY.out]; rintro e w3 ⟨rfl, r3, m3⟩
  have T3 := Lib.hid (TA.out.rmod m3 r3)
  have M3 := Lib.hid ((ma.mono (S' := (· = b')) (fun _ _ h => h.elim)).trans m3)
  have X3 := Lib.hid (XA.out.mod m3 (by show ¬ w2.heap.size = b'; omega))
  have a0 := X3.out.cell 0; have a1 := X3.out.cell 1; have a2 := X3.out.cell 2
  have z3 : w2.heap.size < w3.heap.size := X3.out.lt
  clear r3 m3 ma
  have fin : ∀ (B : Bool) (w' : World), Mod (fun _ => False) w3 w' → (SameT most each pat ks most' each' pat' ks' → B = true) → (∃ B' : Bool, Ending.returned (.bool B) = .returned (.bool B') ∧ (SameT most each pat ks most' each' pat' ks' → B' = true)) ∧ Both w' b M most each pat (delL ks k) b' base most' each' pat' (delL ks' k) ∧ Mod (TM M b') w w' := by
    intro B w' hm hB
    refine ⟨⟨B, rfl, hB⟩, ⟨T3.out.new hm, H1.out.ok.del _, H1.out.ok'.del _, H1.out.small, H1.out.small'⟩, ?_⟩
    exact (((M1.out.mono (fun _ _ h => h.elim)).trans (M2.out.mono (fun _ _ h => .inl h))).trans (M3.out.mono (fun _ _ h => .inr h))).trans (hm.mono (fun _ _ h => h.elim))
  have hsame : SameT most each pat ks most' each' pat' ks' → x0 = y0 ∧ x1 = y1 ∧ x2 = y2 ∧ doneE ks k = doneE ks' k := by
    rintro ⟨h1, h2, h3, h4⟩
    subst h4
    have := HX.out.symm.trans HY.out
    simp at this
    exact ⟨this.1, this.2.1, this.2.2, rfl⟩
  have FIN := Lib.hid fin
  have HS := Lib.hid hsame
  clear fin hsame
  obtain ⟨E, hE⟩ : ∃ E, E = doneE ks k := ⟨_, rfl⟩
  obtain ⟨E', hE'⟩ : ∃ E, E = doneE ks' k := ⟨_, rfl⟩
  rw [← hE, ← hE'] at HS ⊢
  clear hE hE'
  by_cases e0 : x0 = y0
  · by_cases e1 : x1 = y1
    · by_cases e2 : x2 = y2
      · go_wp2_with fail
        go_ret
        exact FIN.out (E == E') _ ((Mod.refl _ w3).alloc _) (fun h => by simpa using (HS.out h).2.2.2)
      · go_wp2_with fail
        go_ret
        exact FIN.out false _ ((Mod.refl _ w3).alloc _) (fun h => absurd (HS.out h).2.2.1 e2)
    · go_wp2_with fail
      go_ret
      exact FIN.out false _ ((Mod.refl _ w3).alloc _) (fun h => absurd (HS.out h).2.1 e1)
  · go_wp2_with fail
    go_ret
    exact FIN.out false _ ((Mod.refl _ w3).alloc _) (fun h => absurd (HS.out h).1 e0)
end Go.Proofs.Ytfdmamaldgpbaaa
