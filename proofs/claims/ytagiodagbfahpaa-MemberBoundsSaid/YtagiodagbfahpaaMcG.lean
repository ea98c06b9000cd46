/- What a view knows that hears all that another one tells: the plain law; no condition. -/
import Derived.Test.YtagiodagbfahpaaMcN
import Derived.Test.YtagiodagbfahpaaMbP
namespace Go.Proofs.Ytagiodagbfahpaa
open Go Go.RowKit

/-- What a view 65536 knows that has heard of H, at moment 2. -/
structure HeardB (H ks : List (Int × Rc)) : Prop where
  hi : ∀ m ∈ H, WordOk m 2 → m.1 ≠ 65536 → m.2.u ≠ 3 → ∃ r, lkL ks m.1 = some r ∧ ¬ newP m.2 r
  len : ks.length ≤ H.length
theorem HeardB.nil : HeardB [] [] := ⟨by simp, by simp⟩
theorem HeardB.step {H ks : List (Int × Rc)} {S : Int × Rc} (h : HeardB H ks) (hs : S.1 = 65536) (hl : H.length < 64) (m : Int × Rc) : HeardB (H ++ [m]) (hearK S 64 ks m 2) := by
  unfold hearK
  by_cases hc : WordOk m 2 ∧ ¬ m.1 = S.1 ∧ takes ks m = true
  · rw [if_pos hc]
    obtain ⟨h1, h2, h3⟩ := hc
    rw [hs] at h2
    have hlp := len_put ks m.1 ⟨m.2.s, m.2.u, 2⟩
    have hle := h.len
    have hno : hearL 64 ks m 2 = putL ks m.1 ⟨m.2.s, m.2.u, 2⟩ := by unfold hearL cutX; rw [if_neg (by omega)]
    rw [hno]
    refine ⟨fun x hx hw hi hu => ?_, by rw [List.length_append]; simp; omega⟩
    by_cases he : x.1 = m.1
    · refine ⟨⟨m.2.s, m.2.u, 2⟩, by rw [lk_put, if_pos he], ?_⟩
      rcases List.mem_append.1 hx with hx | hx
      · obtain ⟨r, hr, hn⟩ := h.hi x hx hw hi hu
        rw [he] at hr
        have ht : newP m.2 r := by unfold takes at h3; rw [hr] at h3; simpa using h3
        intro hc
        unfold newP at hn ht hc
        simp only at hc
        omega
      · simp at hx
        subst hx
        unfold newP
        simp only
        omega
    · rcases List.mem_append.1 hx with hx | hx
      · obtain ⟨r, hr, hn⟩ := h.hi x hx hw hi hu
        exact ⟨r, by rw [lk_put, if_neg he]; exact hr, hn⟩
      · simp at hx
        subst hx
        exact absurd rfl he
  · rw [if_neg hc]
    refine ⟨fun x hx hw hi hu => ?_, by rw [List.length_append]; have := h.len; omega⟩
    rcases List.mem_append.1 hx with hx | hx
    · exact h.hi x hx hw hi hu
    · simp at hx
      subst hx
      have ht : takes ks x = false := by
        cases hk : takes ks x with
        | false => rfl
        | true => exact absurd ⟨hw, by rw [hs]; exact hi, hk⟩ hc
      unfold takes at ht
      cases hk : lkL ks x.1 with
      | none => rw [hk] at ht; simp at ht; exact absurd ht hu
      | some r => rw [hk] at ht; exact ⟨r, rfl, by simpa using ht⟩

/-- Itself, as it may be: alive. -/
def SelfOk (S : Int × Rc) : Prop := 0 ≤ S.2.s ∧ S.2.s ≤ 1073741824 ∧ S.2.u = 1
theorem SelfOk.hear {S : Int × Rc} (h : SelfOk S) (m : Int × Rc) (now : Int) : SelfOk (hearSelf S m now) := by
  unfold SelfOk at *
  unfold hearSelf
  split
  · rename_i hc
    unfold hearS
    have := hc.1
    unfold WordOk at this
    split
    · simp only
      omega
    · exact h
  · exact h
theorem hearK_len (S : Int × Rc) (most : Int) (ks : List (Int × Rc)) (m : Int × Rc) (now : Int) : (hearK S most ks m now).length ≤ ks.length + 1 := by
  unfold hearK
  split
  · unfold hearL cutX
    have := len_put ks m.1 ⟨m.2.s, m.2.u, now⟩
    split
    · have h2 : (delL (putL ks m.1 ⟨m.2.s, m.2.u, now⟩) (firstK (putL ks m.1 ⟨m.2.s, m.2.u, now⟩))).length ≤ (putL ks m.1 ⟨m.2.s, m.2.u, now⟩).length := List.length_filter_le _ _
      omega
    · omega
  · omega

/-- A member, as of no moment; a list whose first k are so. -/
def zb (q : Int × Rc) : Int × Rc := (q.1, ⟨q.2.s, q.2.u, 0⟩)
def gz (k : Nat) (G : List (Int × Rc)) : List (Int × Rc) := (G.take k).map zb ++ G.drop k
theorem gz_len (k : Nat) (G : List (Int × Rc)) : (gz k G).length = G.length := by unfold gz; simp; omega
theorem gz_get {k : Nat} {G : List (Int × Rc)} {q : Int × Rc} (h : G[k]? = some q) : (gz k G)[k]? = some q := by
  have hl := (List.getElem?_eq_some_iff.1 h).1
  unfold gz
  rw [List.getElem?_append_right (by simp; omega)]
  simp only [List.length_map, List.length_take, List.getElem?_drop]
  rw [show k + (k - min k G.length) = k by omega]
  exact h
theorem gz_step {k : Nat} {G : List (Int × Rc)} {q : Int × Rc} (h : G[k]? = some q) : (gz k G).set k (zb q) = gz (k + 1) G := by
  have hl := (List.getElem?_eq_some_iff.1 h).1
  apply List.ext_getElem?
  intro j
  rw [List.getElem?_set]
  unfold gz
  by_cases hj : k = j
  · subst hj
    rw [if_pos rfl, if_pos (by simp; omega), List.getElem?_append_left (by simp; omega), List.getElem?_map, List.getElem?_take, if_pos (by omega), h]
    rfl
  · rw [if_neg hj]
    by_cases hjk : j < k
    · rw [List.getElem?_append_left (by simp; omega), List.getElem?_append_left (by simp; omega), List.getElem?_map, List.getElem?_map, List.getElem?_take, List.getElem?_take, if_pos hjk, if_pos (by omega)]
    · rw [List.getElem?_append_right (by simp; omega), List.getElem?_append_right (by simp; omega)]
      simp only [List.length_map, List.length_take, List.getElem?_drop]
      congr 1
      omega
theorem recL_set (q : Int × Rc) : ∀ (l : List (Int × Rc)) (k : Nat), l[k]? = some q → (recL l).set (k * 4 + 3) (.int .i64 0) = recL (l.set k (zb q))
  | [], k, h => by simp at h
  | y :: t, 0, h => by
    simp at h
    subst h
    rfl
  | y :: t, k + 1, h => by
    have := recL_set q t k (by simpa using h)
    rw [List.set_cons_succ, recL_cons, recL_cons, ← this, show (k + 1) * 4 + 3 = (recC y).length + (k * 4 + 3) by simp [recC]; omega, List.set_append_right _ _ (by omega)]
    simp
/-- All that is known is told. -/
theorem gos_mem {S : Int × Rc} {seed k : Int} {ks : List (Int × Rc)} (hr : Rising ks) (hk : (ks.length : Int) ≤ k) {q : Int × Rc} (h : q ∈ ks) : q ∈ gosL S seed k ks := by
  unfold gosL gosO
  refine List.mem_append_left _ (List.mem_map.2 ⟨q.1, ?_, ?_⟩)
  · unfold gosI
    rw [List.take_of_length_le (by rw [shuffled_len, keysL_len]; unfold smp; omega), ← List.count_pos_iff, count_shuffled, List.count_pos_iff]
    exact List.mem_map.2 ⟨q, h, rfl⟩
  · have := lk_of_mem (k := q.1) (v := q.2) hr h
    unfold rd
    rw [this]
    rfl
theorem gosL_len {S : Int × Rc} {seed k : Int} {ks : List (Int × Rc)} : (gosL S seed k ks).length ≤ ks.length + 1 := by
  unfold gosL
  rw [List.length_append, gosO_len]
  have := smp_le k ks.length
  simp
  omega
end Go.Proofs.Ytagiodagbfahpaa
