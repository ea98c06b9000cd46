/- Plain laws of conn: what Next asks for; no condition. -/
import Derived.Test.YtjmfhcliggjdgaaGreatDoorVCoK
namespace Go.Proofs.YtjmfhcliggjdgaaGreatDoor
open Go Go.RowKit

/-- What holds of what is asked. -/
structure AskedP (n : Nat) (L : LB) (f : Nat → Bool) (now : Int) (may : List Int) (T : LT) (st : LT × LT) : Prop where
  each : ∀ q ∈ st.2, ∃ x : Nat, q.1 = x ∧ x < n ∧ (∃ o, lkL L q.2.p = some o ∧ o x = true) ∧ f x = false ∧ q.2.p ∈ may ∧ q.2.t = now
  nodup : (keysL T ++ keysL st.2).Nodup
  tab : ∀ k, (lkL st.1 k).isSome = decide (k ∈ keysL T ++ keysL st.2)
  len : st.1.length = T.length + st.2.length
theorem keysL_snoc {α : Type} (l : List (Int × α)) (x : Int × α) : keysL (l ++ [x]) = keysL l ++ [x.1] := by unfold keysL; rw [List.map_append]; rfl
theorem AskedP.step {n : Nat} {mo ea : Int} {L : LB} {f : Nat → Bool} {now seed p : Int} {may : List Int} {T : LT} {st st' : LT × LT} (h : AskedP n L f now may T st) (hp : p ∈ may) (ha : askS n mo ea L f now seed p st = some st') : AskedP n L f now may T st' := by
  obtain ⟨x, hx, ho, hout, he, rfl⟩ := askS_some ha
  obtain ⟨hf, hl⟩ := outF_none hx hout
  have hnot : ¬ (x : Int) ∈ keysL T ++ keysL st.2 := by
    have := h.tab x
    rw [hl] at this
    simpa using this.symm
  refine ⟨fun q hq => ?_, ?_, fun k => ?_, ?_⟩
  · rcases List.mem_append.1 hq with hq | hq
    · exact h.each q hq
    · obtain rfl : q = ((x : Int), (⟨p, now⟩ : Fl.Rq)) := by simpa using hq
      exact ⟨x, rfl, hx, ho, hf, hp, rfl⟩
  · dsimp only
    rw [keysL_snoc, ← List.append_assoc]
    refine List.nodup_append.2 ⟨h.nodup, by simp, fun a ha b hb e => hnot ?_⟩
    obtain rfl : b = (x : Int) := by simpa using hb
    rwa [← e]
  · dsimp only
    rw [lk_put, keysL_snoc]
    by_cases e : k = (x : Int)
    · subst e; simp
    · rw [if_neg e, h.tab k]
      simp [e]
  · dsimp only
    rw [len_put0 _ hl, h.len, List.length_append]
    simp only [List.length_cons, List.length_nil]
    omega
theorem rising_nodup {α : Type} {T : List (Int × α)} (h : Rising T) : (keysL T).Nodup := by
  unfold keysL List.Nodup
  rw [List.pairwise_map]
  exact h.imp fun h e => by rw [e] at h; exact absurd h (Int.lt_irrefl _)
theorem AskedP.all {n : Nat} {mo ea : Int} {L : LB} {f : Nat → Bool} {now seed : Int} {may : List Int} {T : LT} (h : Rising T) (ps : List Int) : AskedP n L f now may T (nextS n mo ea L f now seed may ps (T, [])) :=
  nextS_ind (P := AskedP n L f now may T) ps (fun _ _ hp _ _ h ha => h.step hp ha) (T, []) ⟨fun q hq => by simp at hq, by rw [show keysL ([] : LT) = [] from rfl, List.append_nil]; exact rising_nodup h, fun k => by rw [show keysL ([] : LT) = [] from rfl, List.append_nil]; exact lk_keys T k, rfl⟩
end Go.Proofs.YtjmfhcliggjdgaaGreatDoor
