/- Plain laws of conn, for the program alone; no condition. -/
import Derived.Test.YtfopglaagnbacaaDoorCoF
namespace Go.Proofs.YtfopglaagnbacaaDoor
open Go Go.RowKit

/-- What holds of the table and the list while Next asks. -/
structure InvS (n : Nat) (mo ea : Int) (st : LT × LT) : Prop where
  ok : Fl.Okk mo ea st.1
  kn : ∀ q ∈ st.1, q.1 < (n : Int)
  ll : st.2.length ≤ st.1.length
theorem InvS.ask {n : Nat} {mo ea now p : Int} {T l : LT} (h : InvS n mo ea (T, l)) {k : Nat} (hk : k < n) (he : Fl.askE mo ea T p k now = 0) : InvS n mo ea (putL T (k : Int) ⟨p, now⟩, l ++ [((k : Int), ⟨p, now⟩)]) := by
  have hlk : lkL T (k : Int) = none := by
    cases hl : lkL T (k : Int) with
    | none => rfl
    | some o =>
      exfalso
      unfold Fl.askE at he
      rw [hl] at he
      split at he
      · cases he
      · simp at he
  refine ⟨h.ok.put0 he, fun q hq => ?_, ?_⟩
  · rcases mem_putO hq with e | e
    · rw [e]; dsimp only; omega
    · exact h.kn q e
  · dsimp only
    unfold putL
    rw [del_none hlk, length_insS, List.length_append]
    have := h.ll
    simp only [List.length_cons, List.length_nil]
    dsimp only at this
    omega
/-- What one more request is. -/
theorem askS_some {n : Nat} {mo ea : Int} {L : LB} {f : Nat → Bool} {now seed p : Int} {st st' : LT × LT} (h : askS n mo ea L f now seed p st = some st') :
    ∃ x : Nat, x < n ∧ (∃ o, lkL L p = some o ∧ o x = true) ∧ outF n f st.1 x = false ∧ Fl.askE mo ea st.1 p x now = 0 ∧ st' = (putL st.1 (x : Int) ⟨p, now⟩, st.2 ++ [((x : Int), ⟨p, now⟩)]) := by
  unfold askS pkS at h
  obtain ⟨k, hk⟩ : ∃ k, k = pickA n L p (some (n, outF n f st.1)) (IntKind.u64.wrap (seed + st.2.length)) := ⟨_, rfl⟩
  rw [← hk] at h
  have hs := pickA_spec n L p (IntKind.u64.wrap (seed + st.2.length)) (outF n f st.1)
  rw [← hk] at hs
  unfold askAt at h
  split at h
  · cases h
  · rename_i hk0
    split at h
    · rename_i he
      rcases hs with ⟨e, _⟩ | ⟨x, e, h1, h2, h3⟩
      · exfalso; omega
      · rw [e] at h he
        cases h
        exact ⟨x, h1, h2, h3, he, rfl⟩
    · cases h
theorem runS_ind {n : Nat} {mo ea : Int} {L : LB} {f : Nat → Bool} {now seed p : Int} {P : LT × LT → Prop} (hstep : ∀ st st', P st → askS n mo ea L f now seed p st = some st' → P st') : ∀ m st, P st → P (runS n mo ea L f now seed p m st)
  | 0, _, h => h
  | m + 1, st, h => by
    cases ha : askS n mo ea L f now seed p st with
    | none => rw [runS_none ha]; exact h
    | some st' => rw [runS_some ha]; exact runS_ind hstep m st' (hstep st st' h ha)
theorem nextS_ind {n : Nat} {mo ea : Int} {L : LB} {f : Nat → Bool} {now seed : Int} {may : List Int} {P : LT × LT → Prop} : ∀ (ps : List Int) (_ : ∀ p, p ∈ ps → p ∈ may → ∀ st st', P st → askS n mo ea L f now seed p st = some st' → P st') (st : LT × LT), P st → P (nextS n mo ea L f now seed may ps st)
  | [], _, _, h => h
  | p :: ps, hstep, st, h => by
    refine nextS_ind ps (fun q hq => hstep q (List.mem_cons_of_mem _ hq)) _ ?_
    by_cases hp : p ∈ may
    · rw [if_pos hp]
      exact runS_ind (hstep p (List.mem_cons_self ..) hp) 300 st h
    · rw [if_neg hp]; exact h
theorem InvS.step {n : Nat} {mo ea : Int} {L : LB} {f : Nat → Bool} {now seed p : Int} {st st' : LT × LT} (h : InvS n mo ea st) (ha : askS n mo ea L f now seed p st = some st') : InvS n mo ea st' := by
  obtain ⟨x, hx, _, _, he, rfl⟩ := askS_some ha
  obtain ⟨T, l⟩ := st
  exact h.ask hx he
theorem nextA_inv {n : Nat} {mo ea : Int} {L : LB} {now : Int} {x : Option (Nat × (Nat → Bool))} {may : List Int} {seed : Int} {T : LT} (hok : Fl.Okk mo ea T) (hkn : ∀ q ∈ T, q.1 < (n : Int)) (hmo : mo ≤ 256) :
    Fl.Okk mo ea (nextA n mo ea L now x may seed T).1 ∧ (∀ q ∈ (nextA n mo ea L now x may seed T).1, q.1 < (n : Int)) ∧ (nextA n mo ea L now x may seed T).2.1.length ≤ 256 := by
  unfold nextA
  split
  · have h := nextS_ind (P := InvS n mo ea) (keysL L) (fun p _ _ st st' h ha => h.step ha) (T, []) ⟨hok, hkn, Nat.zero_le _⟩ (L := L) (f := (x.getD (0, fun _ => false)).2) (now := now) (seed := seed) (may := may)
    refine ⟨h.ok, h.kn, ?_⟩
    have h1 := h.ll
    have h2 := h.ok.len
    dsimp only
    omega
  · exact ⟨hok, hkn, Nat.zero_le _⟩
theorem hasB_nat (f : Nat → Bool) (m : Nat) : hasB f (m : Int) = f m := by unfold hasB; simp
theorem many_put0 {T : LT} {k : Int} (p now : Int) (h : lkL T k = none) (p' : Int) : Fl.many (putL T k ⟨p, now⟩) p' = Fl.many T p' + if p = p' then 1 else 0 := by
  unfold putL
  rw [del_none h, Fl.many_insS]
theorem len_put0 {T : LT} {k : Int} (v : Fl.Rq) (h : lkL T k = none) : (putL T k v).length = T.length + 1 := by
  unfold putL
  rw [del_none h, length_insS]
/-- How much room there is for a peer. -/
def roomN (mo ea p : Int) (T : LT) : Nat := (min (mo - T.length) (ea - Fl.many T p)).toNat
theorem askE_none {mo ea p now : Int} {T : LT} {k : Int} (h : Fl.askE mo ea T p k now = 0) : lkL T k = none := by
  cases hl : lkL T k with
  | none => rfl
  | some o =>
    exfalso
    unfold Fl.askE at h
    rw [hl] at h
    split at h
    · cases h
    · simp at h
theorem askE_iff {mo ea p now k : Int} {T : LT} (hp : 0 ≤ p ∧ p ≤ 65536) (hk : 0 ≤ k ∧ k ≤ 1023) (hq : 0 ≤ now ∧ now ≤ 1099511627776) (hl : lkL T k = none) : Fl.askE mo ea T p k now = 0 ↔ 0 < roomN mo ea p T := by
  unfold Fl.askE roomN
  rw [if_neg (by omega), hl]
  simp only [Option.isSome_none, Bool.false_eq_true, if_false]
  split
  · rename_i h
    constructor
    · intro e; cases e
    · intro e; omega
  · rename_i h
    constructor
    · intro _; omega
    · intro _; rfl
theorem lk_keys {α : Type} (T : List (Int × α)) (k : Int) : (lkL T k).isSome = decide (k ∈ keysL T) := by
  cases h : lkL T k with
  | none =>
    have := lk_none.1 h
    symm
    simp only [Option.isSome_none, decide_eq_false_iff_not]
    intro hm
    unfold keysL at hm
    obtain ⟨q, hq, e⟩ := List.mem_map.1 hm
    exact this q hq e
  | some v =>
    symm
    simp only [Option.isSome_some, decide_eq_true_eq]
    unfold keysL
    exact List.mem_map.2 ⟨_, lk_some_mem h, rfl⟩
theorem outF_at {n : Nat} {f : Nat → Bool} {T : LT} {i : Nat} (hi : i < n) : outF n f T i = (f i || decide ((i : Int) ∈ keysL T)) := by
  unfold outF
  rw [decide_eq_true hi, Bool.true_and, lk_keys]
theorem outF_none {n : Nat} {f : Nat → Bool} {T : LT} {i : Nat} (hi : i < n) (h : outF n f T i = false) : f i = false ∧ lkL T (i : Int) = none := by
  unfold outF at h
  rw [decide_eq_true hi, Bool.true_and, Bool.or_eq_false_iff] at h
  refine ⟨h.1, ?_⟩
  cases hl : lkL T (i : Int) with
  | none => rfl
  | some o => rw [hl] at h; cases h.2
/-- The pieces that are free, of m from one on. -/
def freeL (F : Nat → Bool) : Nat → Nat → List Nat
  | 0, _ => []
  | m + 1, i => if F i = true then freeL F m (i + 1) else i :: freeL F m (i + 1)
theorem freeL_add (F : Nat → Bool) : ∀ a b i, freeL F (a + b) i = freeL F a i ++ freeL F b (i + a)
  | 0, b, i => by simp [freeL]
  | a + 1, b, i => by
    rw [show a + 1 + b = (a + b) + 1 by omega]
    show (if F i = true then freeL F (a + b) (i + 1) else i :: freeL F (a + b) (i + 1)) = (if F i = true then freeL F a (i + 1) else i :: freeL F a (i + 1)) ++ _
    rw [freeL_add F a b (i + 1), show i + 1 + a = i + (a + 1) by omega]
    split <;> simp
theorem freeL_len (F : Nat → Bool) : ∀ m i, (freeL F m i).length ≤ m
  | 0, _ => Nat.zero_le _
  | m + 1, i => by
    show (if F i = true then freeL F m (i + 1) else i :: freeL F m (i + 1)).length ≤ _
    have := freeL_len F m (i + 1)
    split
    · omega
    · rw [List.length_cons]; omega
theorem freeL_snoc (F : Nat → Bool) (i : Nat) : freeL F (i + 1) 0 = freeL F i 0 ++ (if F i = true then [] else [i]) := by
  rw [freeL_add]
  simp [freeL]
/-- A free piece has its place in the list. -/
theorem freeL_at (F : Nat → Bool) {n i : Nat} (hi : i < n) (hF : F i = false) : (freeL F n 0)[(freeL F i 0).length]? = some i := by
  rw [show n = i + ((n - i - 1) + 1) by omega, freeL_add, List.getElem?_append_right (Nat.le_refl _), Nat.sub_self, Nat.zero_add]
  show (if F i = true then _ else i :: _)[0]? = _
  rw [if_neg (by rw [hF]; decide)]
  rfl
/-- What holds of what is asked. -/
structure AskedP (n : Nat) (L : LB) (f : Nat → Bool) (now : Int) (may : List Int) (T : LT) (st : LT × LT) : Prop where
  each : ∀ q ∈ st.2, ∃ x : Nat, q.1 = x ∧ x < n ∧ (∃ o, lkL L q.2.p = some o ∧ o x = true) ∧ f x = false ∧ q.2.p ∈ may ∧ q.2.t = now
  nodup : (keysL T ++ keysL st.2).Nodup
  tab : ∀ k, (lkL st.1 k).isSome = decide (k ∈ keysL T ++ keysL st.2)
  len : st.1.length = T.length + st.2.length
theorem keysL_snoc {α : Type} (l : List (Int × α)) (x : Int × α) : keysL (l ++ [x]) = keysL l ++ [x.1] := by unfold keysL; rw [List.map_append]; rfl
theorem AskedP.step {n : Nat} {mo ea : Int} {L : LB} {f : Nat → Bool} {now seed p : Int} {may : List Int} {T : LT} {st st' : LT × LT} (h : AskedP n L f now may T st) (hp : p ∈ may) (ha : askS n mo ea L f now seed p st = some st') : AskedP n L f now may T st' := by
  obtain ⟨x, hx, ho, hout, he, rfl⟩ := askS_some ha
  obtain ⟨hf, hl⟩ := outF_none hx hout
  have hnot : ¬ (x : Int) ∈ keysL T ++ keysL st.2 := by
    have := h.tab x
    rw [hl] at this
    simpa using this.symm
  refine ⟨fun q hq => ?_, ?_, fun k => ?_, ?_⟩
  · rcases List.mem_append.1 hq with hq | hq
    · exact h.each q hq
    · obtain rfl : q = ((x : Int), (⟨p, now⟩ : Fl.Rq)) := by simpa using hq
      exact ⟨x, rfl, hx, ho, hf, hp, rfl⟩
  · dsimp only
    rw [keysL_snoc, ← List.append_assoc]
    refine List.nodup_append.2 ⟨h.nodup, by simp, fun a ha b hb e => hnot ?_⟩
    obtain rfl : b = (x : Int) := by simpa using hb
    rwa [← e]
  · dsimp only
    rw [lk_put, keysL_snoc]
    by_cases e : k = (x : Int)
    · subst e; simp
    · rw [if_neg e, h.tab k]
      simp [e]
  · dsimp only
    rw [len_put0 _ hl, h.len, List.length_append]
    simp only [List.length_cons, List.length_nil]
    omega
theorem rising_nodup {α : Type} {T : List (Int × α)} (h : Rising T) : (keysL T).Nodup := by
  unfold keysL List.Nodup
  rw [List.pairwise_map]
  exact h.imp fun h e => by rw [e] at h; exact absurd h (Int.lt_irrefl _)
theorem AskedP.all {n : Nat} {mo ea : Int} {L : LB} {f : Nat → Bool} {now seed : Int} {may : List Int} {T : LT} (h : Rising T) (ps : List Int) : AskedP n L f now may T (nextS n mo ea L f now seed may ps (T, [])) :=
  nextS_ind (P := AskedP n L f now may T) ps (fun _ _ hp _ _ h ha => h.step hp ha) (T, []) ⟨fun q hq => by simp at hq, by rw [show keysL ([] : LT) = [] from rfl, List.append_nil]; exact rising_nodup h, fun k => by rw [show keysL ([] : LT) = [] from rfl, List.append_nil]; exact lk_keys T k, rfl⟩
/-- The numbers of the peers. -/
def RngL (L : LB) : Prop := ∀ q ∈ L, 1 ≤ q.1 ∧ q.1 ≤ 65536
theorem RngL.put {L : LB} (h : RngL L) {p : Int} (hp : 1 ≤ p ∧ p ≤ 65536) (f : Nat → Bool) : RngL (putL L p f) := fun q hq => (mem_putO hq).elim (fun e => by rw [e]; exact hp) (h q)
/-- Whether a peer has, below k, what is wanted. -/
def hitTo (o f : Nat → Bool) : Nat → Bool
  | 0 => false
  | k + 1 => hitTo o f k || (o k && !f k)
theorem hitTo_iff (o f : Nat → Bool) : ∀ k, hitTo o f k = true ↔ ∃ i, i < k ∧ o i = true ∧ f i = false
  | 0 => by simp [hitTo]
  | k + 1 => by
    show (hitTo o f k || (o k && !f k)) = true ↔ _
    rw [Bool.or_eq_true, hitTo_iff o f k, Bool.and_eq_true]
    constructor
    · rintro (⟨i, h1, h2, h3⟩ | ⟨h1, h2⟩)
      · exact ⟨i, by omega, h2, h3⟩
      · exact ⟨k, by omega, h1, by simpa using h2⟩
    · rintro ⟨i, h1, h2, h3⟩
      by_cases e : i = k
      · subst e; exact .inr ⟨h2, by simpa using h3⟩
      · exact .inl ⟨i, by omega, h2, h3⟩
def hitP (n : Nat) (L : LB) (f : Nat → Bool) (p : Int) : Bool := match lkL L p with
  | none => false
  | some o => hitTo o f n
/-- Whether anything is wanted of those that may be asked. -/
def wantB (n : Nat) (L : LB) (f : Nat → Bool) (l : List Int) : Bool := l.any (hitP n L f)
theorem wantB_snoc (n : Nat) (L : LB) (f : Nat → Bool) (l : List Int) (p : Int) : wantB n L f (l ++ [p]) = (wantB n L f l || hitP n L f p) := by unfold wantB; rw [List.any_append]; simp
theorem runS_len {n : Nat} {mo ea : Int} {L : LB} {f : Nat → Bool} {now seed p : Int} : ∀ m st, st.2.length ≤ (runS n mo ea L f now seed p m st).2.length
  | 0, _ => Nat.le_refl _
  | m + 1, st => by
    cases h : askS n mo ea L f now seed p st with
    | none => rw [runS_none h]; exact Nat.le_refl _
    | some st' =>
      rw [runS_some h]
      have h1 := runS_len (n := n) (mo := mo) (ea := ea) (L := L) (f := f) (now := now) (seed := seed) (p := p) m st'
      have h2 := askS_len h
      omega
theorem nextS_len {n : Nat} {mo ea : Int} {L : LB} {f : Nat → Bool} {now seed : Int} {may : List Int} : ∀ ps st, st.2.length ≤ (nextS n mo ea L f now seed may ps st).2.length
  | [], _ => Nat.le_refl _
  | p :: ps, st => by
    have h1 := nextS_len (n := n) (mo := mo) (ea := ea) (L := L) (f := f) (now := now) (seed := seed) (may := may) ps (if p ∈ may then runS n mo ea L f now seed p 300 st else st)
    have h2 : st.2.length ≤ (if p ∈ may then runS n mo ea L f now seed p 300 st else st).2.length := by
      split
      · exact runS_len _ _
      · exact Nat.le_refl _
    exact Nat.le_trans h2 h1
theorem nextS_stuck {n : Nat} {mo ea : Int} {L : LB} {f : Nat → Bool} {now seed : Int} {may : List Int} : ∀ ps st, (nextS n mo ea L f now seed may ps st).2.length = st.2.length → ∀ p, p ∈ ps → p ∈ may → askS n mo ea L f now seed p st = none
  | [], _, _, p, hp, _ => by cases hp
  | q :: ps, st, h, p, hp, hm => by
    have h1 := nextS_len (n := n) (mo := mo) (ea := ea) (L := L) (f := f) (now := now) (seed := seed) (may := may) ps (if q ∈ may then runS n mo ea L f now seed q 300 st else st)
    have h0 : (nextS n mo ea L f now seed may ps (if q ∈ may then runS n mo ea L f now seed q 300 st else st)).2.length = st.2.length := h
    by_cases hq : q ∈ may
    · rw [if_pos hq] at h1 h0
      cases ha : askS n mo ea L f now seed q st with
      | some st' =>
        exfalso
        rw [show (300 : Nat) = 299 + 1 from rfl, runS_some ha] at h1 h0
        have h2 := runS_len (n := n) (mo := mo) (ea := ea) (L := L) (f := f) (now := now) (seed := seed) (p := q) 299 st'
        have h3 := askS_len ha
        omega
      | none =>
        rcases List.mem_cons.1 hp with e | hp
        · rw [e]; exact ha
        · rw [show (300 : Nat) = 299 + 1 from rfl, runS_none ha] at h0
          exact nextS_stuck ps st h0 p hp hm
    · rw [if_neg hq] at h0
      rcases List.mem_cons.1 hp with e | hp
      · rw [e] at hm; exact absurd hm hq
      · exact nextS_stuck ps st h0 p hp hm
theorem mem_keys {α : Type} {L : List (Int × α)} {p : Int} {o : α} (h : lkL L p = some o) : p ∈ keysL L := by
  unfold keysL
  exact List.mem_map.2 ⟨_, lk_some_mem h, rfl⟩
/-- Something is asked where, and only where, something is wanted. -/
theorem next_goes {n : Nat} {mo ea : Int} {L : LB} {f : Nat → Bool} {now seed : Int} {may : List Int} (hn : n ≤ 1024) (hq : 0 ≤ now ∧ now ≤ 1099511627776) (hmo : 1 ≤ mo) (hea : 1 ≤ ea) (hr : RngL L) :
    decide (0 < (nextS n mo ea L f now seed may (keysL L) ([], [])).2.length) = wantB n L f may := by
  have hask := AskedP.all (n := n) (mo := mo) (ea := ea) (L := L) (f := f) (now := now) (seed := seed) (may := may) (T := []) List.Pairwise.nil (keysL L)
  have hstuck := nextS_stuck (n := n) (mo := mo) (ea := ea) (L := L) (f := f) (now := now) (seed := seed) (may := may) (keysL L) ([], [])
  generalize nextS n mo ea L f now seed may (keysL L) ([], []) = R at *
  cases hw : wantB n L f may with
  | true =>
    rw [decide_eq_true_eq]
    unfold wantB at hw
    obtain ⟨p, hp, hh⟩ := List.any_eq_true.1 hw
    unfold hitP at hh
    split at hh
    · cases hh
    · rename_i o ho
      obtain ⟨i, hi, h1, h2⟩ := (hitTo_iff o f n).1 hh
      refine Nat.pos_of_ne_zero fun h0 => ?_
      have ha := hstuck (by rw [h0]; rfl) p (mem_keys ho) hp
      have hs := pickA_spec n L p (IntKind.u64.wrap (seed + (([] : LT).length : Int))) (outF n f [])
      unfold askS askAt pkS at ha
      dsimp only at ha
      rcases hs with ⟨e, hall⟩ | ⟨x, e, hx, ⟨o', ho', _⟩, _⟩
      · have := hall o ho i hi h1
        unfold outF at this
        rw [h2] at this
        simp [lkL] at this
      · rw [e] at ha
        rw [if_neg (by omega)] at ha
        have hrp := hr _ (lk_some_mem ho)
        dsimp only at hrp
        have he : Fl.askE mo ea [] p x now = 0 := (askE_iff (T := []) (by omega) (by omega) hq rfl).2 (by unfold roomN; simp [Fl.many]; omega)
        rw [if_pos he] at ha
        cases ha
  | false =>
    rw [decide_eq_false_iff_not]
    intro hpos
    obtain ⟨q, hq2⟩ := List.exists_mem_of_length_pos hpos
    obtain ⟨x, _, hx, ⟨o, ho, hox⟩, hfx, hpm, _⟩ := hask.each q hq2
    have : wantB n L f may = true := by
      unfold wantB
      refine List.any_eq_true.2 ⟨_, hpm, ?_⟩
      unfold hitP
      rw [ho]
      exact (hitTo_iff o f n).2 ⟨x, hx, hox, hfx⟩
    rw [hw] at this
    cases this
theorem freeL_fil (F : Nat → Bool) {n x : Nat} (hx : x < n) (hF : F x = false) : (freeL (fil F x (x + 1) true) n 0).length + 1 = (freeL F n 0).length := by
  have hext : ∀ (m i : Nat), (x < i ∨ i + m ≤ x) → freeL (fil F x (x + 1) true) m i = freeL F m i := by
    intro m
    induction m with
    | zero => intro i _; rfl
    | succ m ih =>
      intro i hi
      have e : fil F x (x + 1) true i = F i := by unfold fil; rw [if_neg (by omega)]
      show (if fil F x (x + 1) true i = true then _ else _) = (if F i = true then _ else _)
      rw [e, ih (i + 1) (by omega)]
  have e1 : fil F x (x + 1) true x = true := by unfold fil; rw [if_pos (by omega)]
  rw [show n = x + ((n - x - 1) + 1) by omega, freeL_add (fil F x (x + 1) true) x ((n - x - 1) + 1) 0, freeL_add F x ((n - x - 1) + 1) 0, List.length_append, List.length_append, hext x 0 (by omega), Nat.zero_add]
  show _ + (if fil F x (x + 1) true x = true then freeL (fil F x (x + 1) true) (n - x - 1) (x + 1) else _ :: _).length + 1 = _ + (if F x = true then _ else x :: freeL F (n - x - 1) (x + 1)).length
  rw [if_pos e1, if_neg (by rw [hF]; decide), hext _ _ (by omega), List.length_cons]
  omega
theorem free_cnt (f : Nat → Bool) : ∀ n, (freeL f n 0).length + cnt f n = n
  | 0 => rfl
  | n + 1 => by
    have ih := free_cnt f n
    rw [freeL_snoc, List.length_append]
    unfold cnt
    by_cases h : f n = true
    · rw [if_pos h]; simp [h]; omega
    · rw [if_neg h]; simp [h]; omega
/-- What holds of the table that Next leaves, if it was empty. -/
structure GoneP (n : Nat) (f : Nat → Bool) (st : LT × LT) : Prop where
  free : (freeL (outF n f st.1) n 0).length + st.1.length + cnt f n = n
  peers : ∀ q ∈ st.1, 1 ≤ q.2.p
theorem GoneP.all {n : Nat} {mo ea : Int} {L : LB} {f : Nat → Bool} {now seed : Int} {may : List Int} (hr : RngL L) (hf : ∀ i, n ≤ i → f i = false) : GoneP n f (nextS n mo ea L f now seed may (keysL L) ([], [])) := by
  refine nextS_ind (P := GoneP n f) (keysL L) (fun p hp _ st st' h ha => ?_) ([], []) ⟨?_, by simp⟩
  · obtain ⟨x, hx, _, hout, he, rfl⟩ := askS_some ha
    have hl := (outF_none hx hout).2
    refine ⟨?_, fun q hq => ?_⟩
    · dsimp only
      rw [outF_put n f st.1 x _ hx, len_put0 _ hl]
      have h1 := freeL_fil (outF n f st.1) hx hout
      have h2 := h.free
      omega
    · rcases mem_putO hq with e | e
      · rw [e]
        unfold keysL at hp
        obtain ⟨b, hb, rfl⟩ := List.mem_map.1 hp
        exact (hr b hb).1
      · exact h.peers q e
  · have h1 : outF n f [] = f := funext fun i => outF_nil n f i hf
    dsimp only
    rw [h1]
    have := free_cnt f n
    simp only [List.length_nil]
    omega
theorem GoneP.many {n : Nat} {f : Nat → Bool} {st : LT × LT} (h : GoneP n f st) : Fl.many st.1 0 = 0 := by
  unfold Fl.many
  rw [List.length_eq_zero_iff, List.filter_eq_nil_iff]
  intro q hq e
  have := h.peers q hq
  simp at e
  omega
end Go.Proofs.YtfopglaagnbacaaDoor
