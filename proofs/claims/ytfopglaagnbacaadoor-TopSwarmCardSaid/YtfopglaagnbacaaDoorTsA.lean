/- Plain law of TopSwarm: what a round leaves, and how many are wanted behind it; no condition. -/
import Derived.Test.YtfopglaagnbacaaDoorCoV
namespace Go.Proofs.YtfopglaagnbacaaDoor
open Go Go.RowKit

/-- A table has just the rows of a list. -/
structure RowsP (T l : LT) : Prop where
  iff : ∀ k r, lkL T k = some r ↔ (k, r) ∈ l
  nodup : (keysL l).Nodup
theorem RowsP.next {n : Nat} {mo ea : Int} {L : LB} {f : Nat → Bool} {now seed : Int} {may : List Int} (ps : List Int) : RowsP (nextS n mo ea L f now seed may ps ([], [])).1 (nextS n mo ea L f now seed may ps ([], [])).2 := by
  have h := nextS_ind (P := fun st : LT × LT => ∀ k r, lkL st.1 k = some r ↔ (k, r) ∈ st.2) (n := n) (mo := mo) (ea := ea) (L := L) (f := f) (now := now) (seed := seed) (may := may) ps (fun p _ _ st st' h ha => by
    obtain ⟨x, hx, _, hout, _, rfl⟩ := askS_some ha
    have hl := (outF_none hx hout).2
    intro k r
    dsimp only
    rw [lk_put, List.mem_append]
    by_cases e : k = (x : Int)
    · subst e
      rw [if_pos rfl]
      constructor
      · intro e; cases e; exact .inr (by simp)
      · rintro (hm | hm)
        · have := (h (x : Int) r).2 hm
          rw [hl] at this
          cases this
        · obtain ⟨_, rfl⟩ : (x : Int) = x ∧ r = ⟨p, now⟩ := by simpa using hm
          rfl
    · rw [if_neg e, h k r]
      constructor
      · exact .inl
      · rintro (hm | hm)
        · exact hm
        · exfalso; simp at hm; exact e hm.1) ([], []) (by simp [lkL])
  have h2 := (AskedP.all (n := n) (mo := mo) (ea := ea) (L := L) (f := f) (now := now) (seed := seed) (may := may) (T := []) List.Pairwise.nil ps).nodup
  exact ⟨h, h2⟩
theorem RowsP.del {T l : LT} {x : Int} {r : Fl.Rq} (h : RowsP T ((x, r) :: l)) : lkL T x = some r ∧ RowsP (delL T x) l := by
  have hn : ¬ x ∈ keysL l ∧ (keysL l).Nodup := List.nodup_cons.1 h.nodup
  refine ⟨(h.iff x r).2 (List.mem_cons_self ..), fun k r' => ?_, hn.2⟩
  rw [lk_del]
  by_cases e : k = x
  · subst e
    rw [if_pos rfl]
    constructor
    · intro e; cases e
    · intro hm; exact absurd (List.mem_map.2 ⟨_, hm, rfl⟩) hn.1
  · rw [if_neg e, h.iff k r']
    constructor
    · intro hm
      rcases List.mem_cons.1 hm with hm | hm
      · cases hm; exact absurd rfl e
      · exact hm
    · exact List.mem_cons_of_mem _
theorem RowsP.nil {T : LT} (h : RowsP T []) (hr : Rising T) : T = [] := by
  cases T with
  | nil => rfl
  | cons q t =>
    have := (h.iff q.1 q.2).1 (lk_of_mem hr (List.mem_cons_self ..))
    cases this
/-- What is there, with more. -/
def MoreP (F : Nat → Bool) (l : List Int) (F' : Nat → Bool) : Prop := ∀ k : Nat, F' k = true ↔ F k = true ∨ (k : Int) ∈ l
theorem MoreP.nil (F : Nat → Bool) : MoreP F [] F := fun k => by simp
theorem MoreP.snoc {F F' : Nat → Bool} {l : List Int} (h : MoreP F l F') (x : Nat) : MoreP F (l ++ [(x : Int)]) (fil F' x (x + 1) true) := fun k => by
  unfold fil
  by_cases e : k = x
  · subst e
    rw [if_pos (by omega)]
    simp
  · rw [if_neg (by omega), h k, List.mem_append]
    have : ¬ (k : Int) = x := by omega
    simp [this]
theorem cnt_mono {g h : Nat → Bool} : ∀ {n : Nat}, (∀ i, i < n → g i = true → h i = true) → cnt g n ≤ cnt h n
  | 0, _ => Nat.le_refl _
  | n + 1, hh => by
    have h1 := cnt_mono (n := n) (fun i hi => hh i (by omega))
    have h2 := hh n (by omega)
    unfold cnt
    by_cases e : g n = true
    · rw [if_pos e, if_pos (h2 e)]; omega
    · rw [if_neg e]; split <;> omega
theorem cnt_lt {g h : Nat → Bool} : ∀ {n : Nat}, (∀ i, i < n → g i = true → h i = true) → (∃ x, x < n ∧ h x = true ∧ g x = false) → cnt g n < cnt h n
  | 0, _, ⟨x, hx, _⟩ => by omega
  | n + 1, hh, ⟨x, hx, h1, h2⟩ => by
    unfold cnt
    by_cases e : x = n
    · subst e
      have h3 := cnt_mono (n := x) (fun i hi => hh i (by omega))
      rw [h1, h2]
      simp
      omega
    · have h3 := cnt_lt (n := n) (fun i hi => hh i (by omega)) ⟨x, by omega, h1, h2⟩
      have h4 := hh n (by omega)
      by_cases e2 : g n = true
      · rw [if_pos e2, if_pos (h4 e2)]; omega
      · rw [if_neg e2]; split <;> omega
theorem cnt_zero {g : Nat → Bool} : ∀ {n : Nat}, cnt g n = 0 → ∀ i, i < n → g i = false
  | 0, _, i, hi => by omega
  | n + 1, h, i, hi => by
    unfold cnt at h
    by_cases e : i = n
    · subst e
      cases hg : g i with
      | false => rfl
      | true => rw [hg] at h; simp at h
    · exact cnt_zero (n := n) (by omega) i (by omega)
/-- How many are wanted yet. -/
def lackN (A F : Nat → Bool) (n : Nat) : Nat := cnt (fun k => A k && !F k) n
/-- All that the peers have. -/
def AllP (L : LB) (A : Nat → Bool) : Prop := ∀ k, A k = true ↔ ∃ q ∈ L, q.2 k = true
/-- A round. -/
theorem round_less {n : Nat} {mo ea : Int} {L : LB} {F F' A : Nat → Bool} {now seed : Int} {may : List Int} (hn : n ≤ 1024) (hq : 0 ≤ now ∧ now ≤ 1099511627776) (hmo : 1 ≤ mo) (hea : 1 ≤ ea) (hr : RngL L) (hri : Rising L) (hmay : ∀ q ∈ L, q.1 ∈ may) (hA : AllP L A) (hF : ∀ k, F k = true → A k = true)
    (hm : MoreP F (keysL (nextS n mo ea L F now seed may (keysL L) ([], [])).2) F') : (∀ k, F' k = true → A k = true) ∧ lackN A F' n ≤ lackN A F n - 1 := by
  have hask := AskedP.all (n := n) (mo := mo) (ea := ea) (L := L) (f := F) (now := now) (seed := seed) (may := may) (T := []) List.Pairwise.nil (keysL L)
  have hgo := next_goes (n := n) (mo := mo) (ea := ea) (L := L) (f := F) (now := now) (seed := seed) (may := may) hn hq hmo hea hr
  generalize nextS n mo ea L F now seed may (keysL L) ([], []) = R at *
  have hsub : ∀ k, F' k = true → A k = true := fun k hk => by
    rcases (hm k).1 hk with h | h
    · exact hF k h
    · unfold keysL at h
      obtain ⟨q, hq2, e⟩ := List.mem_map.1 h
      obtain ⟨x, e1, _, ⟨o, ho, hox⟩, _⟩ := hask.each q hq2
      have : k = x := by omega
      subst this
      exact (hA k).2 ⟨_, lk_some_mem ho, hox⟩
  refine ⟨hsub, ?_⟩
  have hmono : ∀ i, i < n → (A i && !F' i) = true → (A i && !F i) = true := fun i _ h => by
    rw [Bool.and_eq_true] at h ⊢
    refine ⟨h.1, ?_⟩
    cases hf : F i with
    | false => rfl
    | true =>
      have h2 := (hm i).2 (.inl hf)
      rw [h2] at h
      simp at h
  by_cases h0 : lackN A F n = 0
  · have := cnt_mono hmono
    unfold lackN at h0 ⊢
    omega
  · have hw : wantB n L F may = true := by
      cases hw : wantB n L F may with
      | true => rfl
      | false =>
        exfalso
        apply h0
        have hz : ∀ i, i < n → (A i && !F i) = false := fun i hi => by
          cases hb : (A i && !F i) with
          | false => rfl
          | true =>
            rw [Bool.and_eq_true] at hb
            obtain ⟨q, hq2, hqi⟩ := (hA i).1 hb.1
            have : wantB n L F may = true := by
              unfold wantB
              refine List.any_eq_true.2 ⟨q.1, hmay q hq2, ?_⟩
              unfold hitP
              rw [lk_of_mem hri (k := q.1) (v := q.2) hq2]
              exact (hitTo_iff q.2 F n).2 ⟨i, hi, hqi, by simpa using hb.2⟩
            rw [hw] at this
            cases this
        have h1 := cnt_mono (g := fun k => A k && !F k) (h := fun _ => false) (n := n) (fun i hi h => by
          have := hz i hi
          rw [this] at h
          cases h)
        have h2 : cnt (fun _ => false) n = 0 := by
          have : ∀ m, cnt (fun _ => false) m = 0 := fun m => by
            induction m with
            | zero => rfl
            | succ m ih => unfold cnt; rw [ih]; rfl
          exact this n
        unfold lackN
        omega
    rw [hw, decide_eq_true_eq] at hgo
    obtain ⟨q, hq2⟩ := List.exists_mem_of_length_pos hgo
    obtain ⟨x, e1, hx, ⟨o, ho, hox⟩, hfx, _⟩ := hask.each q hq2
    have h1 := cnt_lt hmono ⟨x, hx, by
      have := (hA x).2 ⟨_, lk_some_mem ho, hox⟩
      rw [this, hfx]
      rfl, by
      have := (hm x).2 (.inr (List.mem_map.2 ⟨q, hq2, e1⟩))
      rw [this]
      simp⟩
    unfold lackN
    omega
/-- Nothing is wanted any more. -/
theorem lack_none {n : Nat} {A F : Nat → Bool} (h : lackN A F n = 0) (hF : ∀ k, F k = true → A k = true) (hA : ∀ k, n ≤ k → A k = false) : F = A := by
  funext k
  by_cases hk : k < n
  · have := cnt_zero h k hk
    cases ha : A k with
    | true => rw [ha] at this; simpa using this
    | false =>
      cases hf : F k with
      | false => rfl
      | true => rw [hF k hf] at ha; cases ha
  · rw [hA k (by omega)]
    cases hf : F k with
    | false => rfl
    | true => rw [← hA k (by omega), hF k hf]
end Go.Proofs.YtfopglaagnbacaaDoor
