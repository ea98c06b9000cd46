/- What is known of one is the newest of what was heard: the plain law; no condition. -/
import Derived.Test.YtagiodagbfahpaaMcO
namespace Go.Proofs.Ytagiodagbfahpaa
open Go Go.RowKit

theorem rising_ext {α : Type} {a b : List (Int × α)} (ha : Rising a) (hb : Rising b) (h : ∀ id, lkL a id = lkL b id) : a = b := by
  have nd : ∀ {l : List (Int × α)}, Rising l → l.Nodup := fun hl => hl.imp fun h e => by rw [e] at h; omega
  have hp : a.Perm b := (List.perm_ext_iff_of_nodup (nd ha) (nd hb)).2 fun q => by
    constructor
    · intro hq
      have := lk_of_mem (k := q.1) (v := q.2) ha hq
      rw [h] at this
      exact lk_some_mem this
    · intro hq
      have := lk_of_mem (k := q.1) (v := q.2) hb hq
      rw [← h] at this
      exact lk_some_mem this
  exact List.Perm.eq_of_pairwise (le := fun p q : Int × α => p.1 < q.1) (fun p q _ _ h1 h2 => by omega) ha hb hp

/-- What a view knows that has heard of H. -/
structure Heard (H ks : List (Int × Rc)) : Prop where
  hi : ∀ m ∈ H, WordOk m 1 → m.1 ≠ 65536 → m.2.u ≠ 3 → ∃ r, lkL ks m.1 = some r ∧ ¬ newP m.2 r
  lo : ∀ q ∈ ks, ∃ m ∈ H, WordOk m 1 ∧ m.1 ≠ 65536 ∧ m.1 = q.1 ∧ m.2.s = q.2.s ∧ m.2.u = q.2.u ∧ q.2.b = 1
  len : ks.length ≤ H.length
theorem Heard.nil : Heard [] [] := ⟨by simp, by simp, by simp⟩
theorem hearSelf_id (S m : Int × Rc) (now : Int) : (hearSelf S m now).1 = S.1 := by
  unfold hearSelf hearS
  split
  · split <;> rfl
  · rfl
theorem Heard.step {H ks : List (Int × Rc)} {S : Int × Rc} (h : Heard H ks) (hs : S.1 = 65536) (hl : H.length < 64) (m : Int × Rc) : Heard (H ++ [m]) (hearK S 64 ks m 1) := by
  unfold hearK
  by_cases hc : WordOk m 1 ∧ ¬ m.1 = S.1 ∧ takes ks m = true
  · rw [if_pos hc]
    obtain ⟨h1, h2, h3⟩ := hc
    rw [hs] at h2
    have hlp := len_put ks m.1 ⟨m.2.s, m.2.u, 1⟩
    have hle := h.len
    have hno : hearL 64 ks m 1 = putL ks m.1 ⟨m.2.s, m.2.u, 1⟩ := by unfold hearL cutX; rw [if_neg (by omega)]
    rw [hno]
    refine ⟨fun x hx hw hi hu => ?_, fun q hq => ?_, by rw [List.length_append]; simp; omega⟩
    · by_cases he : x.1 = m.1
      · refine ⟨⟨m.2.s, m.2.u, 1⟩, by rw [lk_put, if_pos he], ?_⟩
        rcases List.mem_append.1 hx with hx | hx
        · obtain ⟨r, hr, hn⟩ := h.hi x hx hw hi hu
          rw [he] at hr
          have ht : newP m.2 r := by unfold takes at h3; rw [hr] at h3; simpa using h3
          intro hc
          unfold newP at hn ht hc
          simp only at hc
          omega
        · simp at hx
          subst hx
          unfold newP
          simp only
          omega
      · rcases List.mem_append.1 hx with hx | hx
        · obtain ⟨r, hr, hn⟩ := h.hi x hx hw hi hu
          exact ⟨r, by rw [lk_put, if_neg he]; exact hr, hn⟩
        · simp at hx
          subst hx
          exact absurd rfl he
    · rcases mem_put hq with rfl | hq
      · exact ⟨m, by simp, h1, h2, rfl, rfl, rfl, rfl⟩
      · obtain ⟨x, hx, hr⟩ := h.lo q hq
        exact ⟨x, by simp [hx], hr⟩
  · rw [if_neg hc]
    refine ⟨fun x hx hw hi hu => ?_, fun q hq => ?_, by rw [List.length_append]; have := h.len; omega⟩
    · rcases List.mem_append.1 hx with hx | hx
      · exact h.hi x hx hw hi hu
      · simp at hx
        subst hx
        have ht : takes ks x = false := by
          cases hk : takes ks x with
          | false => rfl
          | true => exact absurd ⟨hw, by rw [hs]; exact hi, hk⟩ hc
        unfold takes at ht
        cases hk : lkL ks x.1 with
        | none => rw [hk] at ht; simp at ht; exact absurd ht hu
        | some r => rw [hk] at ht; exact ⟨r, rfl, by simpa using ht⟩
    · obtain ⟨x, hx, hr⟩ := h.lo q hq
      exact ⟨x, by simp [hx], hr⟩
theorem Heard.half {H ks H' ks' : List (Int × Rc)} (h : Heard H ks) (h' : Heard H' ks') (hm : ∀ m, m ∈ H → m ∈ H') (hg : ∀ m ∈ H, m.1 ≠ 65536 ∧ m.2.u ≠ 3) {id : Int} {r : Rc} (hr : lkL ks id = some r) : r.b = 1 ∧ ∃ r', lkL ks' id = some r' ∧ ¬ newP r r' := by
  obtain ⟨m, h1, h2, h3, h4, h5, h6, h7⟩ := h.lo _ (lk_some_mem hr)
  obtain ⟨r', hr', hn⟩ := h'.hi m (hm m h1) h2 h3 (hg m h1).2
  simp only at h4 h5 h6 h7
  rw [h4] at hr'
  refine ⟨h7, r', hr', fun hc => hn ?_⟩
  unfold newP at hc ⊢
  rw [h5, h6]
  exact hc
theorem Heard.same {H ks H' ks' : List (Int × Rc)} (h : Heard H ks) (h' : Heard H' ks') (hm : ∀ m, m ∈ H ↔ m ∈ H') (hg : ∀ m ∈ H, m.1 ≠ 65536 ∧ m.2.u ≠ 3) (hr : Rising ks) (hr' : Rising ks') : ks = ks' := by
  have hg' : ∀ m ∈ H', m.1 ≠ 65536 ∧ m.2.u ≠ 3 := fun m hm' => hg m ((hm m).2 hm')
  refine rising_ext hr hr' fun id => ?_
  cases hk : lkL ks id with
  | none =>
    cases hk' : lkL ks' id with
    | none => rfl
    | some r' =>
      obtain ⟨_, r, e, _⟩ := h'.half h (fun m => (hm m).2) hg' hk'
      rw [hk] at e
      cases e
  | some r =>
    obtain ⟨b1, r', e', n1⟩ := h.half h' (fun m => (hm m).1) hg hk
    obtain ⟨b2, r2, e2, n2⟩ := h'.half h (fun m => (hm m).2) hg' e'
    rw [hk] at e2
    cases e2
    rw [e']
    obtain ⟨s, u, b⟩ := r
    obtain ⟨s', u', b'⟩ := r'
    unfold newP at n1 n2
    simp only at b1 b2 n1 n2
    have : s = s' := by omega
    have : u = u' := by omega
    subst b1; subst b2
    simp_all
end Go.Proofs.Ytagiodagbfahpaa
