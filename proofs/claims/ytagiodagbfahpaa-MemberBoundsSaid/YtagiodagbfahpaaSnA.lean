/- The laws on member: what both views hold, what a step does to both; no condition. -/
import Derived.Test.YtagiodagbfahpaaSmJ
import Derived.Test.YtagiodagbfahpaaMcO
namespace Go.Proofs.Ytagiodagbfahpaa
open Go Go.RowKit

theorem OkV.fail {most : Int} {ks : List (Int × Rc)} (h : OkV most ks) (id now : Int) : OkV most (failK ks id now) := by
  unfold failK
  split
  · rename_i hn
    split
    · rename_i r hk
      split
      · have hm := h.each _ (lk_some_mem hk)
        have hle := len_del h.rising (lk_some_mem hk)
        refine ⟨rising_put h.rising _ _, ?_, fun q hq => ?_⟩
        · unfold putL
          rw [length_insS]
          have := h.len
          omega
        · rcases mem_put hq with rfl | hq
          · simp only at hm ⊢
            omega
          · exact h.each q hq
      · exact h
    · exact h
  · exact h
theorem tick1_mem {now pat : Int} {q x : Int × Rc} (h : x ∈ tick1 now pat q) : x = q ∨ x = (q.1, ⟨q.2.s, 3, now⟩) := by
  unfold tick1 at h
  split at h
  · simp at h
  · split at h
    · simp at h; exact .inr h
    · simp at h; exact .inl h
theorem tickL_mem {now pat : Int} {ks : List (Int × Rc)} {x : Int × Rc} (h : x ∈ tickL now pat ks) : ∃ q ∈ ks, x = q ∨ x = (q.1, ⟨q.2.s, 3, now⟩) := by
  obtain ⟨q, hq, hx⟩ := List.mem_flatMap.1 h
  exact ⟨q, hq, tick1_mem hx⟩
theorem tickL_rising {now pat : Int} : ∀ {ks : List (Int × Rc)}, Rising ks → Rising (tickL now pat ks)
  | [], _ => List.Pairwise.nil
  | q :: t, h => by
    obtain ⟨h1, h2⟩ := List.pairwise_cons.1 h
    have ih := tickL_rising (now := now) (pat := pat) h2
    show Rising (tick1 now pat q ++ tickL now pat t)
    refine List.pairwise_append.2 ⟨?_, ih, fun x hx y hy => ?_⟩
    · unfold tick1
      split
      · exact List.Pairwise.nil
      · split <;> exact List.pairwise_singleton _ _
    · obtain ⟨q', hq', hy⟩ := tickL_mem hy
      have := h1 q' hq'
      rcases tick1_mem hx with rfl | rfl <;> rcases hy with rfl | rfl <;> exact this
def tickK (ks : List (Int × Rc)) (now pat : Int) : List (Int × Rc) := if 0 ≤ now ∧ now ≤ 1099511627776 ∧ 1 ≤ pat ∧ pat ≤ 1048576 then tickL now pat ks else ks
theorem OkV.tick {most : Int} {ks : List (Int × Rc)} (h : OkV most ks) (now pat : Int) : OkV most (tickK ks now pat) := by
  unfold tickK
  split
  · rename_i hn
    refine ⟨tickL_rising h.rising, by have := tickL_len now pat ks; have := h.len; omega, fun q hq => ?_⟩
    obtain ⟨q', hq', e⟩ := tickL_mem hq
    have := h.each q' hq'
    rcases e with rfl | rfl
    · exact this
    · simp only; omega
  · exact h

/-- A step. -/
structure Sp where
  d : Int
  m : Int × Rc
  n : Int
  t : Int
  k : Int
def stepS (S : Int × Rc) (s : Sp) : Int × Rc := if s.d = 0 then hearSelf S s.m s.t else S
def stepK (S : Int × Rc) (most : Int) (ks : List (Int × Rc)) (s : Sp) : List (Int × Rc) := if s.d = 0 then hearK S most ks s.m s.t else if s.d = 1 then failK ks s.n s.t else if s.d = 2 then tickK ks s.t s.n else ks
theorem OkV.step {most : Int} {ks : List (Int × Rc)} (h : OkV most ks) (S : Int × Rc) (s : Sp) : OkV most (stepK S most ks s) := by
  unfold stepK
  split
  · exact h.hearK _ _ _
  · split
    · exact h.fail _ _
    · split
      · exact h.tick _ _
      · exact h

/-- Both views. -/
structure TwoV (w : World) (b M b' base : Nat) (S : Int × Rc) (most : Int) (ks : List (Int × Rc)) : Prop where
  t : VW w b M S most ks
  r : RW w b' base S most ks
  ne : b ≠ b' ∧ M ≠ b' ∧ b < base ∧ M < base ∧ base ≤ w.heap.size
  ok : OkV most ks
theorem TwoV.new {w w' : World} {b M b' base : Nat} {S : Int × Rc} {most : Int} {ks : List (Int × Rc)} (h : TwoV w b M b' base S most ks) (hm : Mod (fun _ => False) w w') : TwoV w' b M b' base S most ks :=
  ⟨h.t.new hm, h.r.new hm, by have := h.ne; have := hm.size; omega, h.ok⟩
theorem TwoV.len {w : World} {b M b' base : Nat} {S : Int × Rc} {most : Int} {ks : List (Int × Rc)} (h : TwoV w b M b' base S most ks) (hm : most ≤ 64) : ks.length ≤ 64 := by have := h.ok.len; omega
/-- What a step may turn. -/
def TurnV (b M b' base : Nat) : Nat → Prop := fun i => i = b ∨ i = M ∨ i = b' ∨ base ≤ i
/-- Behind the code's step. -/
theorem TwoV.mid {w w' : World} {b M b' base : Nat} {S : Int × Rc} {most : Int} {ks : List (Int × Rc)} (h : TwoV w b M b' base S most ks) (hm : Mod (fun i => i = b ∨ i = M) w w') : RW w' b' base S most ks ∧ base ≤ w'.heap.size := by
  have := h.ne
  have := hm.size
  exact ⟨h.r.mod hm (fun e => by omega) (fun i hi e => by omega), by omega⟩
/-- Behind both. -/
theorem TwoV.both {w w2 w3 : World} {b M b' base : Nat} {S S2 : Int × Rc} {most : Int} {ks k2 : List (Int × Rc)} (h : TwoV w b M b' base S most ks) (hm : Mod (fun i => i = b ∨ i = M) w w2) (ht : VW w2 b M S2 most k2) (hm3 : Mod (fun i => i = b' ∨ base ≤ i) w2 w3) (hr : RW w3 b' base S2 most k2) (hok : OkV most k2) : TwoV w3 b M b' base S2 most k2 ∧ Mod (TurnV b M b' base) w w3 := by
  have h1 := h.ne
  have h2 := hm.size
  have h3 := hm3.size
  refine ⟨⟨ht.mod hm3 (fun e => by omega) (fun e => by omega), hr, by omega, hok⟩, (hm.mono fun i _ e => ?_).trans (hm3.mono fun i _ e => ?_)⟩
  · unfold TurnV; omega
  · unfold TurnV; omega
end Go.Proofs.Ytagiodagbfahpaa
