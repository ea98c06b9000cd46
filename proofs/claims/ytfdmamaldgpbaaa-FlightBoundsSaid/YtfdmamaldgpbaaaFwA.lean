/- The laws on flight: what may be in a table; awake; no condition. -/
import Derived.Test.YtfdmamaldgpbaaaFrG
namespace Go.Proofs.Ytfdmamaldgpbaaa
open Go Go.RowKit

/-- What holds of a table's rows. -/
structure Okk (most each : Int) (ks : List (Int × Rq)) : Prop where
  rising : Rising ks
  len : (ks.length : Int) ≤ most
  many : ∀ p, (many ks p : Int) ≤ each
  rng : ∀ q ∈ ks, 0 ≤ q.1 ∧ q.1 ≤ 1023 ∧ (0 ≤ q.2.t ∧ q.2.t ≤ 1099511627776) ∧ 0 ≤ q.2.p ∧ q.2.p ≤ 65536
theorem Okk.nil (most each : Int) (h1 : 0 ≤ most) (h2 : 0 ≤ each) : Okk most each [] := ⟨List.Pairwise.nil, by simpa using h1, fun p => by simpa [Go.Proofs.Ytfdmamaldgpbaaa.many] using h2, fun q h => by simp at h⟩
theorem Okk.filter {most each : Int} {ks : List (Int × Rq)} (h : Okk most each ks) (φ : Int × Rq → Bool) : Okk most each (ks.filter φ) := by
  refine ⟨List.Pairwise.filter _ h.rising, ?_, fun p => ?_, fun q hq => h.rng q (List.mem_filter.1 hq).1⟩
  · have := List.length_filter_le φ ks
    have := h.len
    omega
  · have h1 := h.many p
    have h2 : Go.Proofs.Ytfdmamaldgpbaaa.many (ks.filter φ) p ≤ Go.Proofs.Ytfdmamaldgpbaaa.many ks p := by
      unfold Go.Proofs.Ytfdmamaldgpbaaa.many
      rw [List.filter_filter, show (fun a : Int × Rq => (a.2.p == p) && φ a) = fun a => φ a && (a.2.p == p) from funext fun a => Bool.and_comm _ _, ← List.filter_filter]
      exact List.length_filter_le _ _
    omega
theorem Okk.del {most each : Int} {ks : List (Int × Rq)} (h : Okk most each ks) (k : Int) : Okk most each (delL ks k) := h.filter _
theorem many_insS (x : Int × Rq) (p : Int) : ∀ ks : List (Int × Rq), many (insS x ks) p = many ks p + if x.2.p = p then 1 else 0
  | [] => by
    unfold insS many
    by_cases e : x.2.p = p <;> simp [e]
  | y :: t => by
    unfold insS
    by_cases h : x.1 < y.1
    · rw [if_pos h]
      unfold many
      rw [List.filter_cons]
      by_cases e : x.2.p = p <;> simp [e]
    · rw [if_neg h]
      have := many_insS x p t
      unfold many at this ⊢
      rw [List.filter_cons, List.filter_cons]
      by_cases e : (y.2.p == p) = true
      · rw [if_pos e, if_pos e, List.length_cons, List.length_cons, this]; omega
      · rw [if_neg e, if_neg e, this]
theorem Okk.ask {most each : Int} {ks : List (Int × Rq)} (h : Okk most each ks) (p k t : Int) : Okk most each (askK most each ks p k t) := by
  unfold askK
  split
  · rename_i he
    unfold askE at he
    split at he
    · cases he
    · rename_i hin
      split at he
      · cases he
      · rename_i hno
        split at he
        · cases he
        · rename_i hful
          have hin := Classical.not_not.1 hin
          have hn : lkL ks k = none := by simpa using hno
          simp only [not_or] at hful
          have hd : putL ks k (⟨p, t⟩ : Rq) = insS (k, ⟨p, t⟩) ks := by unfold putL; rw [del_of_none hn]
          refine ⟨rising_put h.rising _ _, ?_, fun p' => ?_, fun q hq => ?_⟩
          · rw [hd, length_insS]; omega
          · rw [hd, many_insS]
            have := h.many p'
            by_cases e : p = p'
            · subst e; rw [if_pos rfl]; omega
            · rw [if_neg e]; omega
          · rw [hd, mem_insS] at hq
            rcases hq with rfl | hq
            · exact ⟨hin.2.2.1, hin.2.2.2.1, hin.2.2.2.2, hin.1, hin.2.1⟩
            · exact h.rng q hq
  · exact h
theorem Okk.i64 {most each : Int} {ks : List (Int × Rq)} (h : Okk most each ks) : ∀ q ∈ ks, I64 q.1 := fun q hq => by
  have := h.rng q hq
  show (Lit.int .i64 q.1).wf = true
  simp [Lit.wf, IntKind.min, IntKind.max, IntKind.signed, IntKind.bits]; omega
theorem Okk.tm {most each : Int} {ks : List (Int × Rq)} (h : Okk most each ks) : ∀ q ∈ ks, 0 ≤ q.2.t ∧ q.2.t ≤ 1099511627776 := fun q hq => (h.rng q hq).2.2.1

theorem Okk.pr {most each : Int} {ks : List (Int × Rq)} (h : Okk most each ks) {q : Int × Rq} (hq : q ∈ ks) : I64 q.2.p := by
  have := (h.rng q hq).2.2.2
  show (Lit.int .i64 q.2.p).wf = true
  simp [Lit.wf, IntKind.min, IntKind.max, IntKind.signed, IntKind.bits]; omega

/-- A table of the program and one of the reference. -/
structure Two (w : World) (b M : Nat) (most each pat : Int) (ks : List (Int × Rq)) (b' base : Nat) (most' each' pat' : Int) (ks' : List (Int × Rq)) : Prop where
  t : TB w b M most each pat ks
  r : RT w b' base most' each' pat' ks'
  n1 : b ≠ b'
  n2 : M ≠ b'
  n3 : b < base
  n4 : M < base
  n5 : base ≤ w.heap.size
theorem Two.new {w w' : World} {b M : Nat} {most each pat : Int} {ks : List (Int × Rq)} {b' base : Nat} {most' each' pat' : Int} {ks' : List (Int × Rq)} (h : Two w b M most each pat ks b' base most' each' pat' ks') (hm : Mod (fun _ => False) w w') : Two w' b M most each pat ks b' base most' each' pat' ks' :=
  ⟨h.t.new hm, h.r.new hm, h.n1, h.n2, h.n3, h.n4, Nat.le_trans h.n5 hm.size⟩
theorem Two.tmod {w w' : World} {b M : Nat} {most each pat : Int} {ks l : List (Int × Rq)} {b' base : Nat} {most' each' pat' : Int} {ks' : List (Int × Rq)} (h : Two w b M most each pat ks b' base most' each' pat' ks') (hm : Mod (· = M) w w') (ht : TB w' b M most each pat l) : Two w' b M most each pat l b' base most' each' pat' ks' :=
  ⟨ht, h.r.mod hm (fun e => h.n2 e.symm) (fun i hi e => by have := h.n4; omega), h.n1, h.n2, h.n3, h.n4, Nat.le_trans h.n5 hm.size⟩
theorem Two.rmod {w w' : World} {b M : Nat} {most each pat : Int} {ks l : List (Int × Rq)} {b' base : Nat} {most' each' pat' : Int} {ks' : List (Int × Rq)} (h : Two w b M most each pat ks b' base most' each' pat' ks') (hm : Mod (· = b') w w') (hr : RT w' b' base most' each' pat' l) : Two w' b M most each pat ks b' base most' each' pat' l :=
  ⟨h.t.mod hm h.n1 h.n2, hr, h.n1, h.n2, h.n3, h.n4, Nat.le_trans h.n5 hm.size⟩

/-- Ask of the reference, whatever it answers. -/
theorem refAsk (p k t : Int) (b base : Nat) (most each pat : Int) (ks : List (Int × Rq)) (w : World) (h : RT w b base most each pat ks) (hlen : ks.length ≤ 1000) (hr : Rising ks) (hbase : base ≤ w.heap.size) :
    Calls Try.prog 24 #[.pointer (some ⟨b, 0, none⟩), .int .i64 p, .int .i64 k, .int .i64 t] w fun e w' => e = .returned (.int .i64 (askE most each ks p k t)) ∧ RT w' b base most each pat (askK most each ks p k t) ∧ Mod (· = b) w w' := by
  by_cases he : askE most each ks p k t = 0
  · have hK : askK most each ks p k t = putL ks k ⟨p, t⟩ := by unfold askK; rw [if_pos he]
    rw [hK, he]
    unfold askE at he
    split at he
    · cases he
    · rename_i hin
      split at he
      · cases he
      · rename_i hno
        split at he
        · cases he
        · rename_i hful
          simp only [not_or] at hful
          exact refAsk0 p k t b base most each pat ks w h hlen hr hbase (Classical.not_not.1 hin) (by simpa using hno) hful.1 hful.2
  · have hK : askK most each ks p k t = ks := by unfold askK; rw [if_neg he]
    rw [hK]
    exact (refAskE p k t b base most each pat ks w h hlen hr he).mono fun e w' ⟨h1, h2⟩ => ⟨h1, h.new h2, h2.mono fun _ _ h => h.elim⟩
/-- What Done answers. -/
def doneE (ks : List (Int × Rq)) (k : Int) : Int := if (lkL ks k).isSome then 0 else 4
theorem flDone (k : Int) (b M : Nat) (most each pat : Int) (ks : List (Int × Rq)) (w : World) (hk : I64 k) (h : TB w b M most each pat ks) :
    Calls Try.prog 19 #[.pointer (some ⟨b, 0, none⟩), .int .i64 k] w fun e w' => e = .returned (.tuple #[rqAt ks k, .int .i64 (doneE ks k)]) ∧ TB w' b M most each pat (delL ks k) ∧ Mod (· = M) w w' := by
  cases hl : lkL ks k with
  | none =>
    rw [del_of_none hl, show rqAt ks k = rq0 by unfold rqAt; rw [hl]; rfl, show doneE ks k = 4 by unfold doneE; rw [hl]; rfl]
    exact (flDoneNo k b M most each pat ks w hk h hl).mono fun e w' ⟨h1, h2⟩ => ⟨h1, h.new h2, h2.mono fun _ _ h => h.elim⟩
  | some r =>
    rw [show rqAt ks k = rqv k r by unfold rqAt; rw [hl]; rfl, show doneE ks k = 0 by unfold doneE; rw [hl]; rfl]
    exact flDoneYes k r b M most each pat ks w hk h hl
theorem refDone (k : Int) (b base : Nat) (most each pat : Int) (ks : List (Int × Rq)) (w : World) (h : RT w b base most each pat ks) (hlen : ks.length ≤ 1000) (hr : Rising ks) (hbase : base ≤ w.heap.size) :
    Calls Try.prog 25 #[.pointer (some ⟨b, 0, none⟩), .int .i64 k] w fun e w' => e = .returned (.tuple #[rqAt ks k, .int .i64 (doneE ks k)]) ∧ RT w' b base most each pat (delL ks k) ∧ Mod (· = b) w w' := by
  cases hl : lkL ks k with
  | none =>
    rw [del_of_none hl, show rqAt ks k = rq0 by unfold rqAt; rw [hl]; rfl, show doneE ks k = 4 by unfold doneE; rw [hl]; rfl]
    exact (refDoneNo k b base most each pat ks w h hlen hl).mono fun e w' ⟨h1, h2⟩ => ⟨h1, h.new h2, h2.mono fun _ _ h => h.elim⟩
  | some r =>
    rw [show rqAt ks k = rqv k r by unfold rqAt; rw [hl]; rfl, show doneE ks k = 0 by unfold doneE; rw [hl]; rfl]
    exact refDoneYes k r b base most each pat ks w h hlen hr hbase hl

theorem i64_of {k : Int} (h1 : -1000000000000 ≤ k) (h2 : k ≤ 1000000000000) : I64 k := by
  show (Lit.int .i64 k).wf = true
  simp [Lit.wf, IntKind.min, IntKind.max, IntKind.signed, IntKind.bits]; omega
set_option maxRecDepth 100000 in
set_option maxHeartbeats 400000 in
theorem awake16 (w : World) :
    Calls Try.prog 8 #[] w fun e w' => e = .returned (.bool true) ∧ Mod (fun _ => False) w w' := by
  have k1 : askE 4 2 [] 1 7 3 = 0 := rfl
  have k2 : askK 4 2 [] 1 7 3 = [(7, ⟨1, 3⟩)] := rfl
  have k3 : rqAt [(7, ⟨1, 3⟩)] 7 = .agg #[.int .i64 1, .int .i64 7, .int .i64 3] := rfl
  have k4 : (lkL [(7, (⟨1, 3⟩ : Rq))] 7).isSome = true := rfl
  have K1 := Lib.hid k1; have K2 := Lib.hid k2; have K3 := Lib.hid k3; have K4 := Lib.hid k4
  clear k1 k2 k3 k4
  go_enter Try.func8, Try.ntmps8
  go_wp2_with fail
  refine (flNew 4 2 5 _ (by unfold NewOk; omega)).mono ?_; rintro e w1 ⟨rfl, h1, m1, z1⟩
  have H1 := Lib.hid h1
  clear h1
  go_wp2_with fail
  refine (flAsk 1 7 3 _ _ _ _ _ _ _ (i64_of (by decide) (by decide)) H1.out (by decide)).mono ?_; rw [K1.out, K2.out]; rintro e w2 ⟨rfl, h2, m2⟩
  have H2 := Lib.hid h2
  have M2 := Lib.hid (m1.new m2 (by intro i hi; omega))
  clear h2 m1 m2
  go_wp2_with fail
  refine (flOf 7 _ _ _ _ _ _ _ (i64_of (by decide) (by decide)) H2.out).mono ?_; rw [K3.out, K4.out]; rintro e w3 ⟨rfl, m3⟩
  go_wp2_with fail
  go_ret
  exact ⟨rfl, (M2.out.trans m3).alloc _⟩
end Go.Proofs.Ytfdmamaldgpbaaa
