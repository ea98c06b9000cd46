/- The laws on flight: what may be in a table; awake; no condition. -/
import Derived.Test.YtfopglaagnbacaaDoorFlE
import Derived.Test.YtfopglaagnbacaaDoorEls
namespace Go.Proofs.YtfopglaagnbacaaDoor.Fl
open Go Go.RowKit

abbrev TRq : TypeId := 45

theorem rqEl {w : World} {a : Option Addr} {n : Nat} {ks : List (Int × Rq)} (h : Els w a 3 n (rqL ks)) (hn : ks.length ≤ n) {i : Nat} {x : Int} {r : Rq} (hi : ks[i]? = some (x, r)) :
    ∃ X, a = some X ∧ w.cell? (X.add (i * 3)) = some (.int .i64 r.p) ∧ w.cell? ⟨(X.add (i * 3)).block, (X.add (i * 3)).off + 1, none⟩ = some (.int .i64 x) ∧ w.cell? ⟨(X.add (i * 3)).block, (X.add (i * 3)).off + 2, none⟩ = some (.int .i64 r.t) := by
  have hl := (List.getElem?_eq_some_iff.1 hi).1
  obtain ⟨X, rfl, h1, h2⟩ := h i (by omega)
  exact ⟨X, rfl, h1 _ (rqL_get ks i 0 x r hi (by decide)), h2 1 _ (rqL_get ks i 1 x r hi (by decide)) (by decide), h2 2 _ (rqL_get ks i 2 x r hi (by decide)) (by decide)⟩

/-- What holds of a table's rows. -/
structure Okk (most each : Int) (ks : List (Int × Rq)) : Prop where
  rising : Rising ks
  len : (ks.length : Int) ≤ most
  many : ∀ p, (many ks p : Int) ≤ each
  rng : ∀ q ∈ ks, 0 ≤ q.1 ∧ q.1 ≤ 1023 ∧ (0 ≤ q.2.t ∧ q.2.t ≤ 1099511627776) ∧ 0 ≤ q.2.p ∧ q.2.p ≤ 65536
theorem Okk.nil (most each : Int) (h1 : 0 ≤ most) (h2 : 0 ≤ each) : Okk most each [] := ⟨List.Pairwise.nil, by simpa using h1, fun p => by simpa [Go.Proofs.YtfopglaagnbacaaDoor.Fl.many] using h2, fun q h => by simp at h⟩
theorem Okk.filter {most each : Int} {ks : List (Int × Rq)} (h : Okk most each ks) (φ : Int × Rq → Bool) : Okk most each (ks.filter φ) := by
  refine ⟨List.Pairwise.filter _ h.rising, ?_, fun p => ?_, fun q hq => h.rng q (List.mem_filter.1 hq).1⟩
  · have := List.length_filter_le φ ks
    have := h.len
    omega
  · have h1 := h.many p
    have h2 : Go.Proofs.YtfopglaagnbacaaDoor.Fl.many (ks.filter φ) p ≤ Go.Proofs.YtfopglaagnbacaaDoor.Fl.many ks p := by
      unfold Go.Proofs.YtfopglaagnbacaaDoor.Fl.many
      rw [List.filter_filter, show (fun a : Int × Rq => (a.2.p == p) && φ a) = fun a => φ a && (a.2.p == p) from funext fun a => Bool.and_comm _ _, ← List.filter_filter]
      exact List.length_filter_le _ _
    omega
theorem Okk.del {most each : Int} {ks : List (Int × Rq)} (h : Okk most each ks) (k : Int) : Okk most each (delL ks k) := h.filter _
theorem many_insS (x : Int × Rq) (p : Int) : ∀ ks : List (Int × Rq), many (insS x ks) p = many ks p + if x.2.p = p then 1 else 0
  | [] => by
    unfold insS many
    by_cases e : x.2.p = p <;> simp [e]
  | y :: t => by
    unfold insS
    by_cases h : x.1 < y.1
    · rw [if_pos h]
      unfold many
      rw [List.filter_cons]
      by_cases e : x.2.p = p <;> simp [e]
    · rw [if_neg h]
      have := many_insS x p t
      unfold many at this ⊢
      rw [List.filter_cons, List.filter_cons]
      by_cases e : (y.2.p == p) = true
      · rw [if_pos e, if_pos e, List.length_cons, List.length_cons, this]; omega
      · rw [if_neg e, if_neg e, this]
theorem Okk.ask {most each : Int} {ks : List (Int × Rq)} (h : Okk most each ks) (p k t : Int) : Okk most each (askK most each ks p k t) := by
  unfold askK
  split
  · rename_i he
    unfold askE at he
    split at he
    · cases he
    · rename_i hin
      split at he
      · cases he
      · rename_i hno
        split at he
        · cases he
        · rename_i hful
          have hin := Classical.not_not.1 hin
          have hn : lkL ks k = none := by simpa using hno
          simp only [not_or] at hful
          have hd : putL ks k (⟨p, t⟩ : Rq) = insS (k, ⟨p, t⟩) ks := by unfold putL; rw [del_of_none hn]
          refine ⟨rising_put h.rising _ _, ?_, fun p' => ?_, fun q hq => ?_⟩
          · rw [hd, length_insS]; omega
          · rw [hd, many_insS]
            have := h.many p'
            by_cases e : p = p'
            · subst e; rw [if_pos rfl]; omega
            · rw [if_neg e]; omega
          · rw [hd, mem_insS] at hq
            rcases hq with rfl | hq
            · exact ⟨hin.2.2.1, hin.2.2.2.1, hin.2.2.2.2, hin.1, hin.2.1⟩
            · exact h.rng q hq
  · exact h
theorem Okk.i64 {most each : Int} {ks : List (Int × Rq)} (h : Okk most each ks) : ∀ q ∈ ks, I64 q.1 := fun q hq => by
  have := h.rng q hq
  show (Lit.int .i64 q.1).wf = true
  simp [Lit.wf, IntKind.min, IntKind.max, IntKind.signed, IntKind.bits]; omega
theorem Okk.tm {most each : Int} {ks : List (Int × Rq)} (h : Okk most each ks) : ∀ q ∈ ks, 0 ≤ q.2.t ∧ q.2.t ≤ 1099511627776 := fun q hq => (h.rng q hq).2.2.1

theorem Okk.pr {most each : Int} {ks : List (Int × Rq)} (h : Okk most each ks) {q : Int × Rq} (hq : q ∈ ks) : I64 q.2.p := by
  have := (h.rng q hq).2.2.2
  show (Lit.int .i64 q.2.p).wf = true
  simp [Lit.wf, IntKind.min, IntKind.max, IntKind.signed, IntKind.bits]; omega


/-- What Done answers. -/
def doneE (ks : List (Int × Rq)) (k : Int) : Int := if (lkL ks k).isSome then 0 else 4
theorem flDone (k : Int) (b M : Nat) (most each pat : Int) (ks : List (Int × Rq)) (w : World) (hk : I64 k) (h : TB w b M most each pat ks) :
    Calls Tryd.prog 26 #[.pointer (some ⟨b, 0, none⟩), .int .i64 k] w fun e w' => e = .returned (.tuple #[rqAt ks k, .int .i64 (doneE ks k)]) ∧ TB w' b M most each pat (delL ks k) ∧ Mod (· = M) w w' := by
  cases hl : lkL ks k with
  | none =>
    rw [del_of_none hl, show rqAt ks k = rq0 by unfold rqAt; rw [hl]; rfl, show doneE ks k = 4 by unfold doneE; rw [hl]; rfl]
    exact (flDoneNo k b M most each pat ks w hk h hl).mono fun e w' ⟨h1, h2⟩ => ⟨h1, h.new h2, h2.mono fun _ _ h => h.elim⟩
  | some r =>
    rw [show rqAt ks k = rqv k r by unfold rqAt; rw [hl]; rfl, show doneE ks k = 0 by unfold doneE; rw [hl]; rfl]
    exact flDoneYes k r b M most each pat ks w hk h hl

theorem i64_of {k : Int} (h1 : -1000000000000 ≤ k) (h2 : k ≤ 1000000000000) : I64 k := by
  show (Lit.int .i64 k).wf = true
  simp [Lit.wf, IntKind.min, IntKind.max, IntKind.signed, IntKind.bits]; omega
end Go.Proofs.YtfopglaagnbacaaDoor.Fl
