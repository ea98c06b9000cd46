/- A range over a function whose iterator keeps a box of its own; the body goes on in every round; no condition. -/
import Derived.Test.YtdlplablojdjlaaJm
import Derived.RangeFuncNested
import Derived.RangeFuncBound
import Derived.RangeFuncCalls
import Derived.RangeFuncLeaves
import Derived.RangeFuncBox
import Derived.Shelf.Abstract
import Derived.Shelf.RegionOpen
import Derived.OwnWalkIn
import Derived.TacticsInMore
import Derived.LoopNIn
import Derived.LoopIn
namespace Go.Proofs.Ytdlplablojdjlaa
open Go Go.RowKit

theorem keeps_of_mod {S : Nat → Prop} {W W' : World} (h : Mod S W W') (hS : ∀ i, S i → ∃ o : Obj, W.heap[i]? = some o ∧ o.isCells = true) : KeepsOthers W W' :=
  ⟨h.size, fun k o h1 h2 => (h.block k (Array.getElem?_eq_some_iff.1 h1).1 fun e => by
    obtain ⟨o', h3, h4⟩ := hS k e
    rw [h1] at h3
    cases h3
    rw [h2] at h4
    cases h4).trans h1⟩
/-- What does not feel that a block of the loop's own book turns. -/
def Deaf (B : Nat) (J : World → Prop) : Prop := ∀ (W : World) (l : Nat) (o o' : Obj), J W → B ≤ l → W.heap[l]? = some o → o.isCells = false → o.isWalk = false → J (W.putObj l o')
section
variable {F : Fence} {n : Nat} {P : Program}
theorem range_over {g : Operand} {ps : Array Tmp} {assign body : Code} {Q : Exit → Act → World → Prop} {a : Act} {w : World}
    (hro : F.round = none) (h1 : 1 ≤ n) {gf : Nat} {lb : Array Value} (hg : a.eval g = .func (.func gf) #[] lb) (hFg : F.fn gf) (eg : ∀ args w, (callFunc gf args).run P w = .ok (.enter gf args) w) (hps : ps.size = 1)
    (J0 JE : World → Prop) (JY JZ : Nat → Value → World → Prop) (h0 : ∀ o : Obj, J0 ((w.alloc (.deferred (some []))).alloc o)) (dY : ∀ i x, Deaf w.heap.size (JY i x)) (dZ : ∀ i x, Deaf w.heap.size (JZ i x)) (dE : Deaf w.heap.size JE)
    (a₁ : Value → Act)
    (hassign : ∀ (l : Nat) (x : Value) (W : World) (K : Act → World → Prop), K (a₁ x) W → assign.wpIn (F.inRound l) (n - 1 - 1) P (Exit.then K (fun _ _ _ => False)) { tmps := (ps.zip #[x]).foldl (fun t (p, v) => t.setIfInBounds p v) a.tmps, defers := [] } W)
    (hbody : ∀ (l i : Nat) (x : Value) (W : World), JY i x W → body.wpIn (F.inRound l) (n - 1 - 1) P (fun e _ W' => e = .normal ∧ KeepsOthers W W' ∧ JZ i x W') (a₁ x) W)
    (hit : ∀ (R : World → Prop) (l : Nat), (∀ W W', KeepsOthers W W' → R W → R W') → (∀ i x W1, JY i x W1 → R W1 → YieldAt F (n - 1 - 1) P l #[x] W1 fun e W' => e = .returned (.bool true) ∧ JZ i x W' ∧ R W') →
      ∀ W, J0 W → R W → CallsIn F (n - 1) P gf (#[.func (.yield l) #[] #[]] ++ lb) W fun e W' => (∃ v, e = .returned v) ∧ JE W' ∧ R W')
    (hdone : ∀ (D : Nat) (W : World), w.heap.size ≤ D → JE W → W.heap[D]? = some (.deferred (some [])) → Q .normal { a with defers := { target := .collected D, args := #[] } :: a.defers } W) :
    (Code.rangeFunc g ps assign body).wpIn F n P Q a w := by
  refine wpIn_rangeFunc fun fn hfn => ?_
  rw [hro]
  obtain ⟨D, hD⟩ : ∃ D, D = w.heap.size := ⟨_, rfl⟩
  let rec0 : LoopState → Loop := fun st => { state := st, pending := none, fn := fn, tmps := a.tmps, params := ps, assign := assign, body := body, defers := D }
  have hrec : ∀ st, rec0 st = { state := st, pending := none, fn := fn, tmps := a.tmps, params := ps, assign := assign, body := body, defers := D } := fun _ => rfl
  obtain ⟨W1, hW1⟩ : ∃ W1, W1 = (w.alloc (.deferred (some []))).alloc (.loop (rec0 .ready)) := ⟨_, rfl⟩
  have W1l : W1.heap[D + 1]? = some (.loop (rec0 .ready)) := by
    have := World.alloc_heap_new (w.alloc (.deferred (some []))) (.loop (rec0 .ready))
    rwa [World.size_alloc, ← hD, ← hW1] at this
  have W1d : W1.heap[D]? = some (.deferred (some [])) := by
    rw [hD, hW1]
    exact (Below.heap_alloc _ _ _ (by simp)).trans (World.alloc_heap_new w _)
  have hst := h0 (.loop (rec0 .ready))
  rw [← hW1] at hst
  refine ⟨D + 1, [{ target := .collected D, args := #[] }], W1, { target := .fn (.func gf) lb, args := #[.func (.yield (D + 1)) #[] #[]] }, W1, gf, #[.func (.yield (D + 1)) #[] #[]] ++ lb, W1, ?_, ?_, ?_, ?_, fun _ => h1, ?_⟩
  · rw [hW1, hrec, hD]
    exact run_enterLoop_outer _ _ _ _ _
  · simp only [resolve, hg]
    simp [go_sem]
  · intro f' hf'
    simp [Target.leads] at hf'
    subst hf'
    exact hFg
  · simp [invoke, go_sem, eg]
  · refine (hit (fun W => W.heap[D + 1]? = some (.loop (rec0 .ready)) ∧ W.heap[D]? = some (.deferred (some []))) (D + 1)
      (fun W W' k h => ⟨k.same _ _ h.1 rfl, k.same _ _ h.2 rfl⟩) ?_ _ hst ⟨W1l, W1d⟩).mono ?_
    · rintro i x W hy ⟨hl, hk⟩
      have hyr := run_yield (P := P) (args := #[x]) hl (by rw [hrec]; exact hps.symm)
      rw [hrec] at hyr
      refine ⟨fn, _, assign, body, hyr, roundIn_of_wpIn hfn (hassign _ x W _ ⟨_, run_beginRound hl (by rw [hrec]), ?_⟩)⟩
      have hlt : D + 1 < W.heap.size := (Array.getElem?_eq_some_iff.1 hl).1
      have hl2 : (W.putObj (D + 1) (.loop { rec0 .ready with state := .busy })).heap[D + 1]? = some (.loop { rec0 .ready with state := .busy }) := World.putObj_heap_same hlt
      have hk2 : (W.putObj (D + 1) (.loop { rec0 .ready with state := .busy })).heap[D]? = some (.deferred (some [])) := (World.putObj_heap_other (by omega)).trans hk
      refine wpIn_mono (hbody _ i x _ (dY i x W (D + 1) _ _ hy (by omega) hl rfl rfl)) ?_
      rintro e a3 W3 ⟨rfl, hkn, hz⟩
      have hl3 := hkn.same _ _ hl2 rfl
      have hk3 := hkn.same _ _ hk2 rfl
      refine ⟨_, _, run_endRound (P := P) none hl3, rfl, dZ i x W3 (D + 1) _ _ hz (by omega) hl3 rfl rfl, ?_, ?_⟩
      · rw [World.putObj_heap_same (Array.getElem?_eq_some_iff.1 hl3).1]
        rfl
      · exact (World.putObj_heap_other (by omega)).trans hk3
    · rintro e W2 ⟨⟨v, rfl⟩, hE, hl, hk⟩
      refine ⟨none, _, (run_endLoop (P := P) hl (by rw [hrec]; simp)), ?_⟩
      exact hdone D _ (by omega) (dE W2 (D + 1) _ _ hE (by omega) hl rfl rfl) ((World.putObj_heap_other (by omega)).trans hk)
end
end Go.Proofs.Ytdlplablojdjlaa
