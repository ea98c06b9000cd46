/- Plain laws of conn: something is asked where something is wanted; how many are free; no condition. -/
import Derived.Test.YtjmfhcliggjdgaaGreatDoorVCoM
namespace Go.Proofs.YtjmfhcliggjdgaaGreatDoor
open Go Go.RowKit

/-- The numbers of the peers. -/
def RngL (L : LB) : Prop := ∀ q ∈ L, 1 ≤ q.1 ∧ q.1 ≤ 65536
theorem RngL.put {L : LB} (h : RngL L) {p : Int} (hp : 1 ≤ p ∧ p ≤ 65536) (f : Nat → Bool) : RngL (putL L p f) := fun q hq => (mem_putO hq).elim (fun e => by rw [e]; exact hp) (h q)
theorem RngL.step {n : Nat} {pm mo ea pa : Int} {L : LB} {T : LT} (h : RngL L) (s : Sc) : RngL (stepC n pm mo ea pa L T s).1 := by
  unfold stepC
  split
  · dsimp only
    unfold setA
    split
    · exact h
    · split
      · rename_i hp
        split
        · exact h.put hp.1 _
        · exact h
      · exact h
  split
  · dsimp only
    unfold addA
    split
    · exact h
    · rename_i f hf
      split
      · exact h.put (h _ (lk_some_mem hf)) _
      · exact h
  split
  · dsimp only
    unfold goneA
    split
    · exact fun q hq => h q (List.mem_filter.1 hq).1
    · exact h
  all_goals (repeat' split) <;> exact h
/-- Whether a peer has, below k, what is wanted. -/
def hitTo (o f : Nat → Bool) : Nat → Bool
  | 0 => false
  | k + 1 => hitTo o f k || (o k && !f k)
theorem hitTo_iff (o f : Nat → Bool) : ∀ k, hitTo o f k = true ↔ ∃ i, i < k ∧ o i = true ∧ f i = false
  | 0 => by simp [hitTo]
  | k + 1 => by
    show (hitTo o f k || (o k && !f k)) = true ↔ _
    rw [Bool.or_eq_true, hitTo_iff o f k, Bool.and_eq_true]
    constructor
    · rintro (⟨i, h1, h2, h3⟩ | ⟨h1, h2⟩)
      · exact ⟨i, by omega, h2, h3⟩
      · exact ⟨k, by omega, h1, by simpa using h2⟩
    · rintro ⟨i, h1, h2, h3⟩
      by_cases e : i = k
      · subst e; exact .inr ⟨h2, by simpa using h3⟩
      · exact .inl ⟨i, by omega, h2, h3⟩
def hitP (n : Nat) (L : LB) (f : Nat → Bool) (p : Int) : Bool := match lkL L p with
  | none => false
  | some o => hitTo o f n
/-- Whether anything is wanted of those that may be asked. -/
def wantB (n : Nat) (L : LB) (f : Nat → Bool) (l : List Int) : Bool := l.any (hitP n L f)
theorem wantB_snoc (n : Nat) (L : LB) (f : Nat → Bool) (l : List Int) (p : Int) : wantB n L f (l ++ [p]) = (wantB n L f l || hitP n L f p) := by unfold wantB; rw [List.any_append]; simp
theorem runS_len {n : Nat} {mo ea : Int} {L : LB} {f : Nat → Bool} {now seed p : Int} : ∀ m st, st.2.length ≤ (runS n mo ea L f now seed p m st).2.length
  | 0, _ => Nat.le_refl _
  | m + 1, st => by
    cases h : askS n mo ea L f now seed p st with
    | none => rw [runS_none h]; exact Nat.le_refl _
    | some st' =>
      rw [runS_some h]
      have h1 := runS_len (n := n) (mo := mo) (ea := ea) (L := L) (f := f) (now := now) (seed := seed) (p := p) m st'
      have h2 := askS_len h
      omega
theorem nextS_len {n : Nat} {mo ea : Int} {L : LB} {f : Nat → Bool} {now seed : Int} {may : List Int} : ∀ ps st, st.2.length ≤ (nextS n mo ea L f now seed may ps st).2.length
  | [], _ => Nat.le_refl _
  | p :: ps, st => by
    have h1 := nextS_len (n := n) (mo := mo) (ea := ea) (L := L) (f := f) (now := now) (seed := seed) (may := may) ps (if p ∈ may then runS n mo ea L f now seed p 300 st else st)
    have h2 : st.2.length ≤ (if p ∈ may then runS n mo ea L f now seed p 300 st else st).2.length := by
      split
      · exact runS_len _ _
      · exact Nat.le_refl _
    exact Nat.le_trans h2 h1
theorem nextS_stuck {n : Nat} {mo ea : Int} {L : LB} {f : Nat → Bool} {now seed : Int} {may : List Int} : ∀ ps st, (nextS n mo ea L f now seed may ps st).2.length = st.2.length → ∀ p, p ∈ ps → p ∈ may → askS n mo ea L f now seed p st = none
  | [], _, _, p, hp, _ => by cases hp
  | q :: ps, st, h, p, hp, hm => by
    have h1 := nextS_len (n := n) (mo := mo) (ea := ea) (L := L) (f := f) (now := now) (seed := seed) (may := may) ps (if q ∈ may then runS n mo ea L f now seed q 300 st else st)
    have h0 : (nextS n mo ea L f now seed may ps (if q ∈ may then runS n mo ea L f now seed q 300 st else st)).2.length = st.2.length := h
    by_cases hq : q ∈ may
    · rw [if_pos hq] at h1 h0
      cases ha : askS n mo ea L f now seed q st with
      | some st' =>
        exfalso
        rw [show (300 : Nat) = 299 + 1 from rfl, runS_some ha] at h1 h0
        have h2 := runS_len (n := n) (mo := mo) (ea := ea) (L := L) (f := f) (now := now) (seed := seed) (p := q) 299 st'
        have h3 := askS_len ha
        omega
      | none =>
        rcases List.mem_cons.1 hp with e | hp
        · rw [e]; exact ha
        · rw [show (300 : Nat) = 299 + 1 from rfl, runS_none ha] at h0
          exact nextS_stuck ps st h0 p hp hm
    · rw [if_neg hq] at h0
      rcases List.mem_cons.1 hp with e | hp
      · rw [e] at hm; exact absurd hm hq
      · exact nextS_stuck ps st h0 p hp hm
theorem mem_keys {α : Type} {L : List (Int × α)} {p : Int} {o : α} (h : lkL L p = some o) : p ∈ keysL L := by
  unfold keysL
  exact List.mem_map.2 ⟨_, lk_some_mem h, rfl⟩
/-- Something is asked where, and only where, something is wanted. -/
theorem next_goes {n : Nat} {mo ea : Int} {L : LB} {f : Nat → Bool} {now seed : Int} {may : List Int} (hn : n ≤ 1024) (hq : 0 ≤ now ∧ now ≤ 1099511627776) (hmo : 1 ≤ mo) (hea : 1 ≤ ea) (hr : RngL L) :
    decide (0 < (nextS n mo ea L f now seed may (keysL L) ([], [])).2.length) = wantB n L f may := by
  have hask := AskedP.all (n := n) (mo := mo) (ea := ea) (L := L) (f := f) (now := now) (seed := seed) (may := may) (T := []) List.Pairwise.nil (keysL L)
  have hstuck := nextS_stuck (n := n) (mo := mo) (ea := ea) (L := L) (f := f) (now := now) (seed := seed) (may := may) (keysL L) ([], [])
  generalize nextS n mo ea L f now seed may (keysL L) ([], []) = R at *
  cases hw : wantB n L f may with
  | true =>
    rw [decide_eq_true_eq]
    unfold wantB at hw
    obtain ⟨p, hp, hh⟩ := List.any_eq_true.1 hw
    unfold hitP at hh
    split at hh
    · cases hh
    · rename_i o ho
      obtain ⟨i, hi, h1, h2⟩ := (hitTo_iff o f n).1 hh
      refine Nat.pos_of_ne_zero fun h0 => ?_
      have ha := hstuck (by rw [h0]; rfl) p (mem_keys ho) hp
      have hs := pickA_spec n L p (IntKind.u64.wrap (seed + (([] : LT).length : Int))) (outF n f [])
      unfold askS askAt pkS at ha
      dsimp only at ha
      rcases hs with ⟨e, hall⟩ | ⟨x, e, hx, ⟨o', ho', _⟩, _⟩
      · have := hall o ho i hi h1
        unfold outF at this
        rw [h2] at this
        simp [lkL] at this
      · rw [e] at ha
        rw [if_neg (by omega)] at ha
        have hrp := hr _ (lk_some_mem ho)
        dsimp only at hrp
        have he : Fl.askE mo ea [] p x now = 0 := (askE_iff (T := []) (by omega) (by omega) hq rfl).2 (by unfold roomN; simp [Fl.many]; omega)
        rw [if_pos he] at ha
        cases ha
  | false =>
    rw [decide_eq_false_iff_not]
    intro hpos
    obtain ⟨q, hq2⟩ := List.exists_mem_of_length_pos hpos
    obtain ⟨x, _, hx, ⟨o, ho, hox⟩, hfx, hpm, _⟩ := hask.each q hq2
    have : wantB n L f may = true := by
      unfold wantB
      refine List.any_eq_true.2 ⟨_, hpm, ?_⟩
      unfold hitP
      rw [ho]
      exact (hitTo_iff o f n).2 ⟨x, hx, hox, hfx⟩
    rw [hw] at this
    cases this
theorem freeL_fil (F : Nat → Bool) {n x : Nat} (hx : x < n) (hF : F x = false) : (freeL (fil F x (x + 1) true) n 0).length + 1 = (freeL F n 0).length := by
  have hext : ∀ (m i : Nat), (x < i ∨ i + m ≤ x) → freeL (fil F x (x + 1) true) m i = freeL F m i := by
    intro m
    induction m with
    | zero => intro i _; rfl
    | succ m ih =>
      intro i hi
      have e : fil F x (x + 1) true i = F i := by unfold fil; rw [if_neg (by omega)]
      show (if fil F x (x + 1) true i = true then _ else _) = (if F i = true then _ else _)
      rw [e, ih (i + 1) (by omega)]
  have e1 : fil F x (x + 1) true x = true := by unfold fil; rw [if_pos (by omega)]
  rw [show n = x + ((n - x - 1) + 1) by omega, freeL_add (fil F x (x + 1) true) x ((n - x - 1) + 1) 0, freeL_add F x ((n - x - 1) + 1) 0, List.length_append, List.length_append, hext x 0 (by omega), Nat.zero_add]
  show _ + (if fil F x (x + 1) true x = true then freeL (fil F x (x + 1) true) (n - x - 1) (x + 1) else _ :: _).length + 1 = _ + (if F x = true then _ else x :: freeL F (n - x - 1) (x + 1)).length
  rw [if_pos e1, if_neg (by rw [hF]; decide), hext _ _ (by omega), List.length_cons]
  omega
theorem free_cnt (f : Nat → Bool) : ∀ n, (freeL f n 0).length + cnt f n = n
  | 0 => rfl
  | n + 1 => by
    have ih := free_cnt f n
    rw [freeL_snoc, List.length_append]
    unfold cnt
    by_cases h : f n = true
    · rw [if_pos h]; simp [h]; omega
    · rw [if_neg h]; simp [h]; omega
/-- What holds of the table that Next leaves, if it was empty. -/
structure GoneP (n : Nat) (f : Nat → Bool) (st : LT × LT) : Prop where
  free : (freeL (outF n f st.1) n 0).length + st.1.length + cnt f n = n
  peers : ∀ q ∈ st.1, 1 ≤ q.2.p
theorem GoneP.all {n : Nat} {mo ea : Int} {L : LB} {f : Nat → Bool} {now seed : Int} {may : List Int} (hr : RngL L) (hf : ∀ i, n ≤ i → f i = false) : GoneP n f (nextS n mo ea L f now seed may (keysL L) ([], [])) := by
  refine nextS_ind (P := GoneP n f) (keysL L) (fun p hp _ st st' h ha => ?_) ([], []) ⟨?_, by simp⟩
  · obtain ⟨x, hx, _, hout, he, rfl⟩ := askS_some ha
    have hl := (outF_none hx hout).2
    refine ⟨?_, fun q hq => ?_⟩
    · dsimp only
      rw [outF_put n f st.1 x _ hx, len_put0 _ hl]
      have h1 := freeL_fil (outF n f st.1) hx hout
      have h2 := h.free
      omega
    · rcases mem_putO hq with e | e
      · rw [e]
        unfold keysL at hp
        obtain ⟨b, hb, rfl⟩ := List.mem_map.1 hp
        exact (hr b hb).1
      · exact h.peers q e
  · have h1 : outF n f [] = f := funext fun i => outF_nil n f i hf
    dsimp only
    rw [h1]
    have := free_cnt f n
    simp only [List.length_nil]
    omega
theorem GoneP.many {n : Nat} {f : Nat → Bool} {st : LT × LT} (h : GoneP n f st) : Fl.many st.1 0 = 0 := by
  unfold Fl.many
  rw [List.length_eq_zero_iff, List.filter_eq_nil_iff]
  intro q hq e
  have := h.peers q hq
  simp at e
  omega
end Go.Proofs.YtjmfhcliggjdgaaGreatDoor
