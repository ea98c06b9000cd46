/- Package member: what a view holds; Hear, whole; of the reference: Right, Newer, Same; no condition. -/
import Derived.Test.YtagiodagbfahpaaMbK
namespace Go.Proofs.Ytagiodagbfahpaa
open Go Go.RowKit

theorem newP_trans {a b c : Rc} (h1 : newP a b) (h2 : newP b c) : newP a c := by unfold newP at *; omega
theorem newP_irr (a : Rc) : ¬ newP a a := by unfold newP; omega
/-- What a view holds. -/
structure OkV (most : Int) (ks : List (Int × Rc)) : Prop where
  rising : Rising ks
  len : (ks.length : Int) ≤ most
  each : ∀ q ∈ ks, 1 ≤ q.1 ∧ q.1 ≤ 65536 ∧ 0 ≤ q.2.s ∧ q.2.s ≤ 1073741824 ∧ 1 ≤ q.2.u ∧ q.2.u ≤ 3 ∧ 0 ≤ q.2.b ∧ q.2.b ≤ 1099511627776
theorem OkV.nil (most : Int) (h : 0 ≤ most) : OkV most [] := ⟨List.Pairwise.nil, by simpa using h, by simp⟩
theorem OkV.filter {most : Int} {ks : List (Int × Rc)} (h : OkV most ks) (φ : Int × Rc → Bool) : OkV most (ks.filter φ) :=
  ⟨h.rising.filter _, by have := List.length_filter_le φ ks; have := h.len; omega, fun q hq => h.each q (List.mem_filter.1 hq).1⟩
theorem OkV.i64 {most : Int} {ks : List (Int × Rc)} (h : OkV most ks) : ∀ q ∈ ks, I64 q.1 := fun q hq => by have := h.each q hq; exact i64_of (by omega) (by omega)
theorem mem_put {ks : List (Int × Rc)} {id : Int} {r : Rc} {q : Int × Rc} (h : q ∈ putL ks id r) : q = (id, r) ∨ q ∈ ks := by
  unfold putL at h
  rcases mem_insS.1 h with h | h
  · exact .inl h
  · exact .inr (List.mem_filter.1 h).1
theorem len_put (ks : List (Int × Rc)) (id : Int) (r : Rc) : (putL ks id r).length ≤ ks.length + 1 := by
  unfold putL
  rw [length_insS]
  have : (delL ks id).length ≤ ks.length := List.length_filter_le _ _
  omega
theorem del_at {α : Type} {ks : List (Int × α)} (hr : Rising ks) {i : Nat} {q : Int × α} (h : ks[i]? = some q) : delL ks q.1 = ks.take i ++ ks.drop (i + 1) := by
  induction ks generalizing i with
  | nil => simp at h
  | cons y t ih =>
    obtain ⟨h1, h2⟩ := List.pairwise_cons.1 hr
    cases i with
    | zero =>
      simp at h
      subst h
      unfold delL
      rw [List.filter_cons, if_neg (by simp)]
      show List.filter _ t = t
      rw [List.filter_eq_self]
      intro x hx
      have := h1 x hx
      simp; omega
    | succ i =>
      have h' : t[i]? = some q := by simpa using h
      have hq := h1 q (List.mem_of_getElem? h')
      have := ih h2 h'
      unfold delL at this ⊢
      rw [List.filter_cons, if_pos (by simp; omega), this]
      rfl
theorem len_del {ks : List (Int × Rc)} (hr : Rising ks) {id : Int} {r : Rc} (h : (id, r) ∈ ks) : (delL ks id).length + 1 = ks.length := by
  obtain ⟨i, hi⟩ := List.getElem?_of_mem h
  have hl := (List.getElem?_eq_some_iff.1 hi).1
  rw [del_at hr hi]
  simp
  omega
theorem put_ne (ks : List (Int × Rc)) (id : Int) (r : Rc) : putL ks id r ≠ [] := by
  intro e; have := congrArg List.length e; unfold putL at this; rw [length_insS] at this; simp at this
theorem firstK_mem {ks : List (Int × Rc)} (hne : ks ≠ []) (hu : OkU ks) : ∃ r, (firstK ks, r) ∈ ks := by
  obtain ⟨q, t, rfl⟩ := List.exists_cons_of_ne_nil hne
  exact ⟨_, (low_is t q hu).1⟩
theorem OkV.put {most : Int} {ks : List (Int × Rc)} (h : OkV most ks) {m : Int × Rc} {now : Int} (hw : WordOk m now) : ∀ q ∈ putL ks m.1 ⟨m.2.s, m.2.u, now⟩, 1 ≤ q.1 ∧ q.1 ≤ 65536 ∧ 0 ≤ q.2.s ∧ q.2.s ≤ 1073741824 ∧ 1 ≤ q.2.u ∧ q.2.u ≤ 3 ∧ 0 ≤ q.2.b ∧ q.2.b ≤ 1099511627776 := by
  intro q hq
  unfold WordOk at hw
  rcases mem_put hq with rfl | hq
  · simp only; omega
  · exact h.each q hq
theorem OkV.cut {most : Int} {ks k2 : List (Int × Rc)} (hr : Rising k2) (hl : (k2.length : Int) ≤ most + 1) (hne : k2 ≠ []) (he : ∀ q ∈ k2, 1 ≤ q.1 ∧ q.1 ≤ 65536 ∧ 0 ≤ q.2.s ∧ q.2.s ≤ 1073741824 ∧ 1 ≤ q.2.u ∧ q.2.u ≤ 3 ∧ 0 ≤ q.2.b ∧ q.2.b ≤ 1099511627776) (_ : ks = k2) : OkV most (cutX most k2) := by
  unfold cutX
  by_cases hm : most < (k2.length : Int)
  · rw [if_pos hm]
    refine ⟨rising_del hr _, ?_, fun q hq => he q (List.mem_filter.1 hq).1⟩
    obtain ⟨r, hmem⟩ := firstK_mem hne (fun q hq => by have := he q hq; omega)
    have := len_del hr hmem
    omega
  · rw [if_neg hm]
    exact ⟨hr, by omega, he⟩
theorem OkV.hear {most : Int} {ks : List (Int × Rc)} (h : OkV most ks) {m : Int × Rc} {now : Int} (hw : WordOk m now) : OkV most (hearL most ks m now) :=
  OkV.cut (ks := putL ks m.1 ⟨m.2.s, m.2.u, now⟩) (rising_put h.rising _ _) (by have := len_put ks m.1 ⟨m.2.s, m.2.u, now⟩; have := h.len; omega) (put_ne _ _ _) (h.put hw) rfl

/-- What Hear tells, and leaves of itself and of others. -/
def hearB (S : Int × Rc) (ks : List (Int × Rc)) (m : Int × Rc) (now : Int) : Bool × Int := if WordOk m now then (if m.1 = S.1 then (decide (newP m.2 S.2), 0) else (takes ks m, 0)) else (false, 1)
def hearSelf (S m : Int × Rc) (now : Int) : Int × Rc := if WordOk m now ∧ m.1 = S.1 then hearS S m else S
def hearK (S : Int × Rc) (most : Int) (ks : List (Int × Rc)) (m : Int × Rc) (now : Int) : List (Int × Rc) := if WordOk m now ∧ ¬ m.1 = S.1 ∧ takes ks m = true then hearL most ks m now else ks
theorem OkV.hearK {most : Int} {ks : List (Int × Rc)} (h : OkV most ks) (S m : Int × Rc) (now : Int) : OkV most (hearK S most ks m now) := by
  unfold Go.Proofs.Ytagiodagbfahpaa.hearK
  split
  · rename_i hc
    exact h.hear hc.1
  · exact h
theorem memHear (m : Int × Rc) (now : Int) (b M : Nat) (S : Int × Rc) (most : Int) (ks : List (Int × Rc)) (w : World) (h : VW w b M S most ks) (hok : OkV most ks) (hm : most ≤ 64) :
    Calls Try.prog 12 #[.pointer (some ⟨b, 0, none⟩), rcv m.1 m.2, .int .i64 now] w fun e w' => e = .returned (.tuple #[.bool (hearB S ks m now).1, .int .i64 (hearB S ks m now).2]) ∧ VW w' b M (hearSelf S m now) most (hearK S most ks m now) ∧ Mod (fun i => i = b ∨ i = M) w w' := by
  have hl := hok.len
  by_cases hw : WordOk m now
  · by_cases hs : m.1 = S.1
    · have e1 : hearB S ks m now = (decide (newP m.2 S.2), 0) := by unfold hearB; rw [if_pos hw, if_pos hs]
      have e2 : hearSelf S m now = hearS S m := by unfold hearSelf; rw [if_pos ⟨hw, hs⟩]
      have e3 : hearK S most ks m now = ks := by unfold hearK; rw [if_neg]; exact fun h => h.2.1 hs
      rw [e1, e2, e3]
      exact (memHearSelf m now b M S most ks w h hw hs).mono fun e w' ⟨g1, g2, g3⟩ => ⟨g1, g2, g3.mono fun i _ h => .inl h⟩
    · have e2 : hearSelf S m now = S := by unfold hearSelf; rw [if_neg]; exact fun h => hs h.2
      cases ht : takes ks m with
      | false =>
        have e1 : hearB S ks m now = (false, 0) := by unfold hearB; rw [if_pos hw, if_neg hs, ht]
        have e3 : hearK S most ks m now = ks := by unfold hearK; rw [if_neg]; rw [ht]; simp
        rw [e1, e2, e3]
        exact (memHearNo m now b M S most ks w h hw hs ht).mono fun e w' ⟨g1, g3⟩ => ⟨g1, h.new g3, g3.mono fun i _ h => h.elim⟩
      | true =>
        have e1 : hearB S ks m now = (true, 0) := by unfold hearB; rw [if_pos hw, if_neg hs, ht]
        have e3 : hearK S most ks m now = hearL most ks m now := by unfold hearK; rw [if_pos ⟨hw, hs, ht⟩]
        rw [e1, e2, e3]
        have hp := hok.put hw
        have hU : OkU (putL ks m.1 ⟨m.2.s, m.2.u, now⟩) := fun q hq => by have := hp q hq; omega
        obtain ⟨r, hmem⟩ := firstK_mem (put_ne ks m.1 ⟨m.2.s, m.2.u, now⟩) hU
        have hf := hp _ hmem
        have hlp := len_put ks m.1 ⟨m.2.s, m.2.u, now⟩
        exact (memHearYes m now b M S most ks w h hw hs ht (by omega) hU (i64_of (by simp only at hf; omega) (by simp only at hf; omega)) (by omega)).mono fun e w' ⟨g1, g2, g3⟩ => ⟨g1, g2, g3.mono fun i _ h => .inr h⟩
  · have e1 : hearB S ks m now = (false, 1) := by unfold hearB; rw [if_neg hw]
    have e2 : hearSelf S m now = S := by unfold hearSelf; rw [if_neg]; exact fun h => hw h.1
    have e3 : hearK S most ks m now = ks := by unfold hearK; rw [if_neg]; exact fun h => hw h.1
    rw [e1, e2, e3]
    exact (memHearBad m now b w hw).mono fun e w' ⟨g1, g3⟩ => ⟨g1, h.new g3, g3.mono fun i _ h => h.elim⟩

theorem refId (n : Int) (w : World) : Calls Try.prog 29 #[.int .i64 n] w fun e w' => e = .returned (.bool (decide (1 ≤ n) && decide (n ≤ 65536))) ∧ w = w' := by
  by_cases h1 : 1 ≤ n
  · go_enter Try.func29, Try.ntmps29
    go_wp2_with fail
    go_ret
    exact ⟨by simp [h1], rfl⟩
  · have h2 : decide (1 ≤ n) = false := by simpa using h1
    go_enter Try.func29, Try.ntmps29
    go_wp2_with fail
    go_ret
    exact ⟨by simp, rfl⟩
/-- May a member be? -/
def RightP (m : Int × Rc) : Prop := 1 ≤ m.1 ∧ m.1 ≤ 65536 ∧ 0 ≤ m.2.s ∧ m.2.s ≤ 1073741824 ∧ 1 ≤ m.2.u ∧ m.2.u ≤ 3
instance (m : Int × Rc) : Decidable (RightP m) := by unfold RightP; infer_instance
set_option maxRecDepth 100000 in
set_option maxHeartbeats 1000000 in
theorem refRight (m : Int × Rc) (w : World) : Calls Try.prog 13 #[rcv m.1 m.2] w fun e w' => e = .returned (.bool (decide (RightP m))) ∧ Mod (fun _ => False) w w' := by
  obtain ⟨id, s, u, b⟩ := m
  obtain ⟨L, hL⟩ : ∃ L, L = decide (RightP (id, ⟨s, u, b⟩)) := ⟨_, rfl⟩
  rw [← hL]
  have HL := Lib.hid hL
  have fin : ∀ B : Bool, (B = true ↔ RightP (id, ⟨s, u, b⟩)) → L = B := by
    intro B hB
    rw [HL.out]
    by_cases h : RightP (id, ⟨s, u, b⟩)
    · rw [decide_eq_true h, hB.2 h]
    · rw [decide_eq_false h]
      cases B with
      | false => rfl
      | true => exact absurd (hB.1 rfl) h
  have FIN := Lib.hid fin
  clear fin hL
  unfold rcv
  dsimp only
  by_cases g1 : 1 ≤ id ∧ id ≤ 65536
  · have e1 := in_yes g1
    have G1 := Lib.hid g1
    clear g1
    go_enter Try.func13, Try.ntmps13
    go_wp2_with fail
    refine (refId _ _).mono ?_; rw [e1]; rintro e w' ⟨rfl, rfl⟩
    go_wp2_with fail
    all_goals (
      go_ret
      refine ⟨congrArg (fun b => Ending.returned (Value.bool b)) (FIN.out _ ?_).symm, (Mod.refl _ w).alloc _⟩
      have := G1.out
      unfold RightP
      simp
      try omega)
  · have e1 := in_no g1
    have G1 := Lib.hid g1
    clear g1
    go_enter Try.func13, Try.ntmps13
    go_wp2_with fail
    refine (refId _ _).mono ?_; rw [e1]; rintro e w' ⟨rfl, rfl⟩
    go_wp2_with fail
    all_goals (
      go_ret
      refine ⟨congrArg (fun b => Ending.returned (Value.bool b)) (FIN.out _ ?_).symm, (Mod.refl _ w).alloc _⟩
      have := G1.out
      unfold RightP
      simp
      try omega)
set_option maxRecDepth 100000 in
set_option maxHeartbeats 1000000 in
theorem refNewer (m o : Int × Rc) (w : World) : Calls Try.prog 15 #[rcv m.1 m.2, rcv o.1 o.2] w fun e w' => e = .returned (.bool (decide (newP m.2 o.2))) ∧ Mod (fun _ => False) w w' := by
  obtain ⟨id, s, u, b⟩ := m
  obtain ⟨id', s', u', b'⟩ := o
  dsimp only
  obtain ⟨L, hL⟩ : ∃ L, L = decide (newP ⟨s, u, b⟩ ⟨s', u', b'⟩) := ⟨_, rfl⟩
  rw [← hL]
  have HL := Lib.hid hL
  have fin : ∀ B : Bool, (B = true ↔ newP ⟨s, u, b⟩ ⟨s', u', b'⟩) → L = B := by
    intro B hB
    rw [HL.out]
    by_cases h : newP ⟨s, u, b⟩ ⟨s', u', b'⟩
    · rw [decide_eq_true h, hB.2 h]
    · rw [decide_eq_false h]
      cases B with
      | false => rfl
      | true => exact absurd (hB.1 rfl) h
  have FIN := Lib.hid fin
  clear fin hL
  unfold rcv
  dsimp only
  rcases Int.lt_trichotomy s' s with g | g | g
  · go_enter Try.func15, Try.ntmps15
    go_wp2_with fail
    all_goals (
      go_ret
      refine ⟨congrArg (fun b => Ending.returned (Value.bool b)) (FIN.out _ ?_).symm, ((Mod.refl _ w).alloc _).alloc _⟩
      unfold newP
      simp
      try omega)
  · subst g
    by_cases gu : u' < u
    · go_enter Try.func15, Try.ntmps15
      go_wp2_with fail
      all_goals (
        go_ret
        refine ⟨congrArg (fun b => Ending.returned (Value.bool b)) (FIN.out _ ?_).symm, ((Mod.refl _ w).alloc _).alloc _⟩
        unfold newP
        simp
        try omega)
    · have gu' : decide (u' < u) = false := by simpa using gu
      go_enter Try.func15, Try.ntmps15
      go_wp2_with fail
      all_goals (
        go_ret
        refine ⟨congrArg (fun b => Ending.returned (Value.bool b)) (FIN.out _ ?_).symm, ((Mod.refl _ w).alloc _).alloc _⟩
        unfold newP
        simp
        try omega)
  · have g3 : decide (s' < s) = false := by simp; omega
    have g4 : (s == s') = false := by simp; omega
    go_enter Try.func15, Try.ntmps15
    go_wp2_with fail
    all_goals (
      go_ret
      refine ⟨congrArg (fun b => Ending.returned (Value.bool b)) (FIN.out _ ?_).symm, ((Mod.refl _ w).alloc _).alloc _⟩
      unfold newP
      simp
      try omega)
end Go.Proofs.Ytagiodagbfahpaa
