/- Texts of this claim, laid together by a program of its own: CoV, CoW, CoZ. Each says in its first row what it proves. -/
import Derived.Test.YtjmfhcliggjdgaaDoorQ4
/- Plain laws of conn, for the program alone; no condition. -/
namespace Go.Proofs.YtjmfhcliggjdgaaDoor
open Go Go.RowKit

/-- What holds of the table and the list while Next asks. -/
structure InvS (n : Nat) (mo ea : Int) (st : LT × LT) : Prop where
  ok : Fl.Okk mo ea st.1
  kn : ∀ q ∈ st.1, q.1 < (n : Int)
  ll : st.2.length ≤ st.1.length
theorem InvS.ask {n : Nat} {mo ea now p : Int} {T l : LT} (h : InvS n mo ea (T, l)) {k : Nat} (hk : k < n) (he : Fl.askE mo ea T p k now = 0) : InvS n mo ea (putL T (k : Int) ⟨p, now⟩, l ++ [((k : Int), ⟨p, now⟩)]) := by
  have hlk : lkL T (k : Int) = none := by
    cases hl : lkL T (k : Int) with
    | none => rfl
    | some o =>
      exfalso
      unfold Fl.askE at he
      rw [hl] at he
      split at he
      · cases he
      · simp at he
  refine ⟨h.ok.put0 he, fun q hq => ?_, ?_⟩
  · rcases mem_putO hq with e | e
    · rw [e]; dsimp only; omega
    · exact h.kn q e
  · dsimp only
    unfold putL
    rw [del_none hlk, length_insS, List.length_append]
    have := h.ll
    simp only [List.length_cons, List.length_nil]
    dsimp only at this
    omega
/-- What one more request is. -/
theorem askS_some {n : Nat} {mo ea : Int} {L : LB} {f : Nat → Bool} {now seed p : Int} {st st' : LT × LT} (h : askS n mo ea L f now seed p st = some st') :
    ∃ x : Nat, x < n ∧ (∃ o, lkL L p = some o ∧ o x = true) ∧ outF n f st.1 x = false ∧ Fl.askE mo ea st.1 p x now = 0 ∧ st' = (putL st.1 (x : Int) ⟨p, now⟩, st.2 ++ [((x : Int), ⟨p, now⟩)]) := by
  unfold askS pkS at h
  obtain ⟨k, hk⟩ : ∃ k, k = pickA n L p (some (n, outF n f st.1)) (IntKind.u64.wrap (seed + st.2.length)) := ⟨_, rfl⟩
  rw [← hk] at h
  have hs := pickA_spec n L p (IntKind.u64.wrap (seed + st.2.length)) (outF n f st.1)
  rw [← hk] at hs
  unfold askAt at h
  split at h
  · cases h
  · rename_i hk0
    split at h
    · rename_i he
      rcases hs with ⟨e, _⟩ | ⟨x, e, h1, h2, h3⟩
      · exfalso; omega
      · rw [e] at h he
        cases h
        exact ⟨x, h1, h2, h3, he, rfl⟩
    · cases h
theorem runS_ind {n : Nat} {mo ea : Int} {L : LB} {f : Nat → Bool} {now seed p : Int} {P : LT × LT → Prop} (hstep : ∀ st st', P st → askS n mo ea L f now seed p st = some st' → P st') : ∀ m st, P st → P (runS n mo ea L f now seed p m st)
  | 0, _, h => h
  | m + 1, st, h => by
    cases ha : askS n mo ea L f now seed p st with
    | none => rw [runS_none ha]; exact h
    | some st' => rw [runS_some ha]; exact runS_ind hstep m st' (hstep st st' h ha)
theorem nextS_ind {n : Nat} {mo ea : Int} {L : LB} {f : Nat → Bool} {now seed : Int} {may : List Int} {P : LT × LT → Prop} : ∀ (ps : List Int) (_ : ∀ p, p ∈ ps → p ∈ may → ∀ st st', P st → askS n mo ea L f now seed p st = some st' → P st') (st : LT × LT), P st → P (nextS n mo ea L f now seed may ps st)
  | [], _, _, h => h
  | p :: ps, hstep, st, h => by
    refine nextS_ind ps (fun q hq => hstep q (List.mem_cons_of_mem _ hq)) _ ?_
    by_cases hp : p ∈ may
    · rw [if_pos hp]
      exact runS_ind (hstep p (List.mem_cons_self ..) hp) 300 st h
    · rw [if_neg hp]; exact h
theorem InvS.step {n : Nat} {mo ea : Int} {L : LB} {f : Nat → Bool} {now seed p : Int} {st st' : LT × LT} (h : InvS n mo ea st) (ha : askS n mo ea L f now seed p st = some st') : InvS n mo ea st' := by
  obtain ⟨x, hx, _, _, he, rfl⟩ := askS_some ha
  obtain ⟨T, l⟩ := st
  exact h.ask hx he
theorem nextA_inv {n : Nat} {mo ea : Int} {L : LB} {now : Int} {x : Option (Nat × (Nat → Bool))} {may : List Int} {seed : Int} {T : LT} (hok : Fl.Okk mo ea T) (hkn : ∀ q ∈ T, q.1 < (n : Int)) (hmo : mo ≤ 256) :
    Fl.Okk mo ea (nextA n mo ea L now x may seed T).1 ∧ (∀ q ∈ (nextA n mo ea L now x may seed T).1, q.1 < (n : Int)) ∧ (nextA n mo ea L now x may seed T).2.1.length ≤ 256 := by
  unfold nextA
  split
  · have h := nextS_ind (P := InvS n mo ea) (keysL L) (fun p _ _ st st' h ha => h.step ha) (T, []) ⟨hok, hkn, Nat.zero_le _⟩ (L := L) (f := (x.getD (0, fun _ => false)).2) (now := now) (seed := seed) (may := may)
    refine ⟨h.ok, h.kn, ?_⟩
    have h1 := h.ll
    have h2 := h.ok.len
    dsimp only
    omega
  · exact ⟨hok, hkn, Nat.zero_le _⟩
theorem hasB_nat (f : Nat → Bool) (m : Nat) : hasB f (m : Int) = f m := by unfold hasB; simp
theorem many_put0 {T : LT} {k : Int} (p now : Int) (h : lkL T k = none) (p' : Int) : Fl.many (putL T k ⟨p, now⟩) p' = Fl.many T p' + if p = p' then 1 else 0 := by
  unfold putL
  rw [del_none h, Fl.many_insS]
theorem len_put0 {T : LT} {k : Int} (v : Fl.Rq) (h : lkL T k = none) : (putL T k v).length = T.length + 1 := by
  unfold putL
  rw [del_none h, length_insS]
/-- How much room there is for a peer. -/
def roomN (mo ea p : Int) (T : LT) : Nat := (min (mo - T.length) (ea - Fl.many T p)).toNat
theorem askE_none {mo ea p now : Int} {T : LT} {k : Int} (h : Fl.askE mo ea T p k now = 0) : lkL T k = none := by
  cases hl : lkL T k with
  | none => rfl
  | some o =>
    exfalso
    unfold Fl.askE at h
    rw [hl] at h
    split at h
    · cases h
    · simp at h
theorem askE_iff {mo ea p now k : Int} {T : LT} (hp : 0 ≤ p ∧ p ≤ 65536) (hk : 0 ≤ k ∧ k ≤ 1023) (hq : 0 ≤ now ∧ now ≤ 1099511627776) (hl : lkL T k = none) : Fl.askE mo ea T p k now = 0 ↔ 0 < roomN mo ea p T := by
  unfold Fl.askE roomN
  rw [if_neg (by omega), hl]
  simp only [Option.isSome_none, Bool.false_eq_true, if_false]
  split
  · rename_i h
    constructor
    · intro e; cases e
    · intro e; omega
  · rename_i h
    constructor
    · intro _; omega
    · intro _; rfl
theorem lk_keys {α : Type} (T : List (Int × α)) (k : Int) : (lkL T k).isSome = decide (k ∈ keysL T) := by
  cases h : lkL T k with
  | none =>
    have := lk_none.1 h
    symm
    simp only [Option.isSome_none, decide_eq_false_iff_not]
    intro hm
    unfold keysL at hm
    obtain ⟨q, hq, e⟩ := List.mem_map.1 hm
    exact this q hq e
  | some v =>
    symm
    simp only [Option.isSome_some, decide_eq_true_eq]
    unfold keysL
    exact List.mem_map.2 ⟨_, lk_some_mem h, rfl⟩
theorem outF_at {n : Nat} {f : Nat → Bool} {T : LT} {i : Nat} (hi : i < n) : outF n f T i = (f i || decide ((i : Int) ∈ keysL T)) := by
  unfold outF
  rw [decide_eq_true hi, Bool.true_and, lk_keys]
theorem outF_none {n : Nat} {f : Nat → Bool} {T : LT} {i : Nat} (hi : i < n) (h : outF n f T i = false) : f i = false ∧ lkL T (i : Int) = none := by
  unfold outF at h
  rw [decide_eq_true hi, Bool.true_and, Bool.or_eq_false_iff] at h
  refine ⟨h.1, ?_⟩
  cases hl : lkL T (i : Int) with
  | none => rfl
  | some o => rw [hl] at h; cases h.2
/-- The pieces that are free, of m from one on. -/
def freeL (F : Nat → Bool) : Nat → Nat → List Nat
  | 0, _ => []
  | m + 1, i => if F i = true then freeL F m (i + 1) else i :: freeL F m (i + 1)
theorem freeL_add (F : Nat → Bool) : ∀ a b i, freeL F (a + b) i = freeL F a i ++ freeL F b (i + a)
  | 0, b, i => by simp [freeL]
  | a + 1, b, i => by
    rw [show a + 1 + b = (a + b) + 1 by omega]
    show (if F i = true then freeL F (a + b) (i + 1) else i :: freeL F (a + b) (i + 1)) = (if F i = true then freeL F a (i + 1) else i :: freeL F a (i + 1)) ++ _
    rw [freeL_add F a b (i + 1), show i + 1 + a = i + (a + 1) by omega]
    split <;> simp
theorem freeL_len (F : Nat → Bool) : ∀ m i, (freeL F m i).length ≤ m
  | 0, _ => Nat.zero_le _
  | m + 1, i => by
    show (if F i = true then freeL F m (i + 1) else i :: freeL F m (i + 1)).length ≤ _
    have := freeL_len F m (i + 1)
    split
    · omega
    · rw [List.length_cons]; omega
theorem freeL_snoc (F : Nat → Bool) (i : Nat) : freeL F (i + 1) 0 = freeL F i 0 ++ (if F i = true then [] else [i]) := by
  rw [freeL_add]
  simp [freeL]
/-- A free piece has its place in the list. -/
theorem freeL_at (F : Nat → Bool) {n i : Nat} (hi : i < n) (hF : F i = false) : (freeL F n 0)[(freeL F i 0).length]? = some i := by
  rw [show n = i + ((n - i - 1) + 1) by omega, freeL_add, List.getElem?_append_right (Nat.le_refl _), Nat.sub_self, Nat.zero_add]
  show (if F i = true then _ else i :: _)[0]? = _
  rw [if_neg (by rw [hF]; decide)]
  rfl
/-- What holds of what is asked. -/
structure AskedP (n : Nat) (L : LB) (f : Nat → Bool) (now : Int) (may : List Int) (T : LT) (st : LT × LT) : Prop where
  each : ∀ q ∈ st.2, ∃ x : Nat, q.1 = x ∧ x < n ∧ (∃ o, lkL L q.2.p = some o ∧ o x = true) ∧ f x = false ∧ q.2.p ∈ may ∧ q.2.t = now
  nodup : (keysL T ++ keysL st.2).Nodup
  tab : ∀ k, (lkL st.1 k).isSome = decide (k ∈ keysL T ++ keysL st.2)
  len : st.1.length = T.length + st.2.length
theorem keysL_snoc {α : Type} (l : List (Int × α)) (x : Int × α) : keysL (l ++ [x]) = keysL l ++ [x.1] := by unfold keysL; rw [List.map_append]; rfl
theorem AskedP.step {n : Nat} {mo ea : Int} {L : LB} {f : Nat → Bool} {now seed p : Int} {may : List Int} {T : LT} {st st' : LT × LT} (h : AskedP n L f now may T st) (hp : p ∈ may) (ha : askS n mo ea L f now seed p st = some st') : AskedP n L f now may T st' := by
  obtain ⟨x, hx, ho, hout, he, rfl⟩ := askS_some ha
  obtain ⟨hf, hl⟩ := outF_none hx hout
  have hnot : ¬ (x : Int) ∈ keysL T ++ keysL st.2 := by
    have := h.tab x
    rw [hl] at this
    simpa using this.symm
  refine ⟨fun q hq => ?_, ?_, fun k => ?_, ?_⟩
  · rcases List.mem_append.1 hq with hq | hq
    · exact h.each q hq
    · obtain rfl : q = ((x : Int), (⟨p, now⟩ : Fl.Rq)) := by simpa using hq
      exact ⟨x, rfl, hx, ho, hf, hp, rfl⟩
  · dsimp only
    rw [keysL_snoc, ← List.append_assoc]
    refine List.nodup_append.2 ⟨h.nodup, by simp, fun a ha b hb e => hnot ?_⟩
    obtain rfl : b = (x : Int) := by simpa using hb
    rwa [← e]
  · dsimp only
    rw [lk_put, keysL_snoc]
    by_cases e : k = (x : Int)
    · subst e; simp
    · rw [if_neg e, h.tab k]
      simp [e]
  · dsimp only
    rw [len_put0 _ hl, h.len, List.length_append]
    simp only [List.length_cons, List.length_nil]
    omega
theorem rising_nodup {α : Type} {T : List (Int × α)} (h : Rising T) : (keysL T).Nodup := by
  unfold keysL List.Nodup
  rw [List.pairwise_map]
  exact h.imp fun h e => by rw [e] at h; exact absurd h (Int.lt_irrefl _)
theorem AskedP.all {n : Nat} {mo ea : Int} {L : LB} {f : Nat → Bool} {now seed : Int} {may : List Int} {T : LT} (h : Rising T) (ps : List Int) : AskedP n L f now may T (nextS n mo ea L f now seed may ps (T, [])) :=
  nextS_ind (P := AskedP n L f now may T) ps (fun _ _ hp _ _ h ha => h.step hp ha) (T, []) ⟨fun q hq => by simp at hq, by rw [show keysL ([] : LT) = [] from rfl, List.append_nil]; exact rising_nodup h, fun k => by rw [show keysL ([] : LT) = [] from rfl, List.append_nil]; exact lk_keys T k, rfl⟩
/-- The numbers of the peers. -/
def RngL (L : LB) : Prop := ∀ q ∈ L, 1 ≤ q.1 ∧ q.1 ≤ 65536
theorem freeL_fil (F : Nat → Bool) {n x : Nat} (hx : x < n) (hF : F x = false) : (freeL (fil F x (x + 1) true) n 0).length + 1 = (freeL F n 0).length := by
  have hext : ∀ (m i : Nat), (x < i ∨ i + m ≤ x) → freeL (fil F x (x + 1) true) m i = freeL F m i := by
    intro m
    induction m with
    | zero => intro i _; rfl
    | succ m ih =>
      intro i hi
      have e : fil F x (x + 1) true i = F i := by unfold fil; rw [if_neg (by omega)]
      show (if fil F x (x + 1) true i = true then _ else _) = (if F i = true then _ else _)
      rw [e, ih (i + 1) (by omega)]
  have e1 : fil F x (x + 1) true x = true := by unfold fil; rw [if_pos (by omega)]
  rw [show n = x + ((n - x - 1) + 1) by omega, freeL_add (fil F x (x + 1) true) x ((n - x - 1) + 1) 0, freeL_add F x ((n - x - 1) + 1) 0, List.length_append, List.length_append, hext x 0 (by omega), Nat.zero_add]
  show _ + (if fil F x (x + 1) true x = true then freeL (fil F x (x + 1) true) (n - x - 1) (x + 1) else _ :: _).length + 1 = _ + (if F x = true then _ else x :: freeL F (n - x - 1) (x + 1)).length
  rw [if_pos e1, if_neg (by rw [hF]; decide), hext _ _ (by omega), List.length_cons]
  omega
theorem free_cnt (f : Nat → Bool) : ∀ n, (freeL f n 0).length + cnt f n = n
  | 0 => rfl
  | n + 1 => by
    have ih := free_cnt f n
    rw [freeL_snoc, List.length_append]
    unfold cnt
    by_cases h : f n = true
    · rw [if_pos h]; simp [h]; omega
    · rw [if_neg h]; simp [h]; omega
/-- What holds of the table that Next leaves, if it was empty. -/
structure GoneP (n : Nat) (f : Nat → Bool) (st : LT × LT) : Prop where
  free : (freeL (outF n f st.1) n 0).length + st.1.length + cnt f n = n
  peers : ∀ q ∈ st.1, 1 ≤ q.2.p
theorem GoneP.all {n : Nat} {mo ea : Int} {L : LB} {f : Nat → Bool} {now seed : Int} {may : List Int} (hr : RngL L) (hf : ∀ i, n ≤ i → f i = false) : GoneP n f (nextS n mo ea L f now seed may (keysL L) ([], [])) := by
  refine nextS_ind (P := GoneP n f) (keysL L) (fun p hp _ st st' h ha => ?_) ([], []) ⟨?_, by simp⟩
  · obtain ⟨x, hx, _, hout, he, rfl⟩ := askS_some ha
    have hl := (outF_none hx hout).2
    refine ⟨?_, fun q hq => ?_⟩
    · dsimp only
      rw [outF_put n f st.1 x _ hx, len_put0 _ hl]
      have h1 := freeL_fil (outF n f st.1) hx hout
      have h2 := h.free
      omega
    · rcases mem_putO hq with e | e
      · rw [e]
        unfold keysL at hp
        obtain ⟨b, hb, rfl⟩ := List.mem_map.1 hp
        exact (hr b hb).1
      · exact h.peers q e
  · have h1 : outF n f [] = f := funext fun i => outF_nil n f i hf
    dsimp only
    rw [h1]
    have := free_cnt f n
    simp only [List.length_nil]
    omega
theorem GoneP.many {n : Nat} {f : Nat → Bool} {st : LT × LT} (h : GoneP n f st) : Fl.many st.1 0 = 0 := by
  unfold Fl.many
  rw [List.length_eq_zero_iff, List.filter_eq_nil_iff]
  intro q hq e
  have := h.peers q hq
  simp at e
  omega
end Go.Proofs.YtjmfhcliggjdgaaDoor

/- The laws on conn: one that lives; no condition but the table. -/
namespace Go.Proofs.YtjmfhcliggjdgaaDoor
open Go Go.RowKit

theorem two_of {R : LT} {a b : Int} (h : R.map (fun q => q.2.p) = [a, b]) : ∃ x y, R = [x, y] ∧ x.2.p = a := by
  match R, h with
  | [x, y], h =>
    simp only [List.map_cons, List.map_nil, List.cons.injEq] at h
    exact ⟨x, y, rfl, h.1⟩
theorem setA_start : setA 2 3 [] 7 (some (2, F13 2 [3])) = (0, [(7, F13 2 [3])]) := by
  unfold setA
  dsimp only
  rw [if_pos ⟨by decide, rfl⟩, if_pos (by decide)]
  rfl
theorem next_start : (nextS 2 4 2 [(7, F13 2 [3])] (F13 2 []) 1 3 [7] (keysL [((7 : Int), F13 2 [3])]) ([], [])).2.map (fun q => q.2.p) = [7, 7] := by decide +kernel
set_option maxRecDepth 100000 in
set_option maxHeartbeats 4000000 in
theorem awake18 (w : World) (hT : TabW w) :
    Calls Tryd.prog 4 #[] w fun e w' => e = .returned (.bool true) ∧ Mod (fun _ => False) w w' := by
  have HT0 := Lib.hid hT
  have HG : Hid (gTab < w.heap.size) := hT.lt
  have HCN := Lib.hid (connNew 2 3 4 2 5 w (by decide) (by unfold Fl.NewOk; decide) hT)
  clear hT
  go_enter Tryd.func4, Tryd.ntmps4
  go_wp2_with fail
  refine HCN.out.mono ?_; rintro e w1 ⟨s, b, M, g, t, tM, rfl, h1, m1, l1⟩
  have H1 := Lib.hid h1
  have M1 := Lib.hid m1
  have L1 := Lib.hid l1
  have ma := (Mod.refl (fun _ => False) w1).alloc (.cells #[.int .u8 3] 5)
  have H1a := Lib.hid (h1.new ma)
  have M1a := Lib.hid (m1.trans ma)
  have HS1 : Hid (Calls Tryd.prog 6 #[.int .i64 2, .slice (some ⟨w1.heap.size, 0, none⟩) 1 1] (w1.alloc (.cells #[.int .u8 3] 5)) (SetsP 2 (F13 2 [3]) (w1.alloc (.cells #[.int .u8 3] 5)))) := setsOk 2 (some ⟨w1.heap.size, 0, none⟩) 1 1 [3] _ (by decide) (byt1 w1 3) (by decide)
  clear ma h1 m1 l1 HCN
  go_wp2_with fail
  refine HS1.out.mono ?_; rintro e w2 ⟨s1, g1, r1, q1, rfl, b1, _, m2, l1, _⟩
  have X1 := Lib.hid b1
  have H2 := Lib.hid (H1a.out.new m2)
  have M2 := Lib.hid (M1a.out.trans m2)
  have HP1 : Hid (∀ i, SWb s b M g t tM [] i → i < s1 ∧ i < g1) := fun i hi => by have := H1a.out.lt hi; omega
  clear b1 m2 l1 HS1 H1 H1a M1 M1a
  have HS3 : Hid (Calls Tryd.prog 6 #[.int .i64 2, .slice none 0 0] w2 (SetsP 2 (F13 2 []) w2)) := setsOk 2 none 0 0 [] w2 (by decide) (Sl.nil _ _) (by decide)
  go_wp2_with fail
  refine HS3.out.mono ?_; rintro e w3 ⟨s3, g3, r3, q3, rfl, b3, _, m3, l3, _⟩
  have X3 := Lib.hid b3
  have X1a := Lib.hid (X1.out.mod m3 (fun h => h) (fun h => h))
  have H3 := Lib.hid (H2.out.new m3)
  have M3 := Lib.hid (M2.out.trans m3)
  have HP3 : Hid (∀ i, SWb s b M g t tM [] i → i < s3 ∧ i < g3) := fun i hi => by have := H2.out.lt hi; omega
  clear b3 m3 l3 HS3 H2 M2 X1
  have HB : Hid (Calls Tryd.prog 7 #[.pointer (some ⟨s, 0, none⟩), .int .i64 7, .pointer (some ⟨s1, 0, none⟩)] w3 fun e w' => e = .returned (.int .i64 0) ∧ StS s b M g t tM 2 3 4 2 5 [] [(7, F13 2 [3])] [] w3 w') := by
    have := connBits 7 (some s1) (some (2, F13 2 [3])) s b M g t tM 2 3 4 2 5 [] [] [] w3 H3.out rfl (HT0.out.mod M3.out fun h => h) (by decide) (by decide) (Fl.i64_of (by decide) (by decide)) (lo := min s1 g1) (.inr ⟨s1, g1, 2, _, rfl, rfl, X1a.out, Nat.min_le_left _ _, Nat.min_le_right _ _⟩) (fun i hi => by have := HP1.out i (.inr (.inl hi)); omega)
    rw [setA_start] at this
    exact this
  go_wp2_with fail
  refine HB.out.mono ?_; rintro e w4 ⟨rfl, h4⟩
  obtain ⟨k1, h4, f4, m4, n4⟩ := h4
  have H4 := Lib.hid h4
  have F4 := Lib.hid f4
  have M4 := Lib.hid (M3.out.new m4 L1.out)
  have X3a := Lib.hid (X3.out.mod m4 (fun e => by have := HP3.out _ e; omega) (fun e => by have := HP3.out _ e; omega))
  have N4 : Hid (∀ i, SWb s b M g t tM k1 i → w.heap.size ≤ i) := fun i hi => (n4 i hi).elim (L1.out i) fun e => Nat.le_trans M3.out.size e
  clear h4 f4 m4 n4 HB M3 X3
  have ma := (Mod.refl (fun _ => False) w4).alloc (.cells #[.int .i64 7] 3)
  have HNX : Hid (Calls Tryd.prog 8 #[.pointer (some ⟨s, 0, none⟩), .int .i64 1, .pointer (some ⟨s3, 0, none⟩), .slice (some ⟨w4.heap.size, 0, none⟩) 1 1, .int .u64 3] (w4.alloc (.cells #[.int .i64 7] 3)) fun e w' => RqE (nextS 2 4 2 [(7, F13 2 [3])] (F13 2 []) 1 3 [7] (keysL [((7 : Int), F13 2 [3])]) ([], [])).2 0 (w4.alloc (.cells #[.int .i64 7] 3)) e w' ∧ Mod (· = tM) (w4.alloc (.cells #[.int .i64 7] 3)) w') := by
    have h := connNext 1 3 (some s3) (some (2, F13 2 [])) (.slice (some ⟨w4.heap.size, 0, none⟩) 1 1) 1 [7] s b M g t tM 2 3 4 2 5 k1 [(7, F13 2 [3])] [] (w4.alloc (.cells #[.int .i64 7] 3)) (H4.out.new ma) ((HT0.out.mod M4.out fun h => h).mod ma fun h => h) (lo := 0) (.inr ⟨s3, g3, 2, _, rfl, rfl, X3a.out.mod ma (fun h => h) (fun h => h), Nat.zero_le _, Nat.zero_le _⟩) (sl_new w4 #[.int .i64 7] 3) (by decide)
      (fun x m c e _ => by cases e; have := H4.out.tb.lt.2; show w4.heap.size ≠ tM; omega) F4.out (Fl.Okk.nil 4 2 (by decide) (by decide)) ⟨by unfold Rising; simp, by decide, by intro q hq; simp at hq; subst hq; exact Fl.i64_of (by decide) (by decide)⟩ (by decide) (by decide) (by intro q hq; simp at hq) (by decide) (fun i hi => by have := N4.out i hi; have := HG.out; omega)
    rw [nextA_some (by decide)] at h
    exact h.mono fun e w' ⟨h1, _, h3⟩ => ⟨h1, h3⟩
  have M4a := Lib.hid (M4.out.trans ma)
  have HTM : Hid (w.heap.size ≤ tM) := N4.out tM (.inr (.inr (.inr rfl)))
  clear ma M4 H4 F4 X3a N4
  go_wp2_with fail
  refine HNX.out.mono ?_; rintro e w5 ⟨⟨v, rfl, o5⟩, m5⟩
  have hmap := next_start
  obtain ⟨R, hR⟩ : ∃ R, R = (nextS 2 4 2 [(7, F13 2 [3])] (F13 2 []) 1 3 [7] (keysL [((7 : Int), F13 2 [3])]) ([], [])).2 := ⟨_, rfl⟩
  rw [← hR] at o5 hmap
  clear hR
  obtain ⟨⟨x0, p0, t0⟩, ⟨x1, p1, t1⟩, rfl, hp0⟩ := two_of hmap
  dsimp only at hp0
  subst hp0
  obtain ⟨a, cap, rfl, _, hel, _⟩ := o5.els
  obtain ⟨X, rfl, c0, _, _⟩ := Fl.rqEl hel (Nat.le_refl _) (i := 0) rfl
  have M5 := Lib.hid (M4a.out.new m5 (fun i e => by rw [e]; exact HTM.out))
  have c0' : w5.cell? X = some (.int .i64 7) := by rw [Nat.zero_mul] at c0; exact c0
  clear o5 hel m5 HNX hmap c0
  go_wp2_with fail
  go_ret
  exact ⟨by simp, M5.out⟩
end Go.Proofs.YtjmfhcliggjdgaaDoor

/- Plain law of ConnOver: what one peer is asked for, if there is room for all it has; no condition. -/
namespace Go.Proofs.YtjmfhcliggjdgaaDoor
open Go Go.RowKit

theorem runS_done {n : Nat} {mo ea : Int} {L : LB} {f : Nat → Bool} {now seed p : Int} (hmo : mo ≤ 256) : ∀ (m : Nat) (st : LT × LT), InvS n mo ea st → 300 ≤ m + st.2.length → askS n mo ea L f now seed p (runS n mo ea L f now seed p m st) = none
  | 0, st, h, hm => by
    exfalso
    have h1 := h.ll
    have h2 := h.ok.len
    omega
  | m + 1, st, h, hm => by
    cases ha : askS n mo ea L f now seed p st with
    | none => rw [runS_none ha]; exact ha
    | some st' =>
      rw [runS_some ha]
      exact runS_done hmo m st' (h.step ha) (by have := askS_len ha; omega)
theorem F13_nil (n i : Nat) : F13 n [] i = false := by unfold F13; simp
theorem lk_one {α : Type} (p : Int) (f : α) (k : Int) : lkL [(p, f)] k = if k = p then some f else none := by
  unfold lkL
  by_cases e : k = p
  · subst e; simp
  · have : ¬ p = k := fun h => e h.symm
    simp [e, this]
/-- One peer is asked for all that it has. -/
theorem over_next {n : Nat} {f z : Nat → Bool} {now seed p : Int} (hn : 1 ≤ n ∧ n ≤ 100) (hz : ∀ i, z i = false) (hf : ∀ i, n ≤ i → f i = false) (hp : p ∈ [(3 : Int), 4]) (hq : 0 ≤ now ∧ now ≤ 1099511627776) :
    (nextS n 200 100 [(p, f)] z now seed [3, 4] (keysL [(p, f)]) ([], [])).2.length = cnt f n ∧ (∀ q ∈ (nextS n 200 100 [(p, f)] z now seed [3, 4] (keysL [(p, f)]) ([], [])).1, q.2.p = p) ∧ (∀ k : Int, (lkL (nextS n 200 100 [(p, f)] z now seed [3, 4] (keysL [(p, f)]) ([], [])).1 k).isSome = hasB f k) ∧
    InvS n 200 100 (nextS n 200 100 [(p, f)] z now seed [3, 4] (keysL [(p, f)]) ([], [])) := by
  have hpr : 1 ≤ p ∧ p ≤ 65536 := by
    simp only [List.mem_cons, List.not_mem_nil, or_false] at hp
    omega
  have hinv0 : InvS n 200 100 (([], []) : LT × LT) := ⟨Fl.Okk.nil 200 100 (by decide) (by decide), by simp, Nat.le_refl _⟩
  have hinv := nextS_ind (P := InvS n 200 100) (keysL [(p, f)]) (fun p _ _ st st' h ha => h.step ha) ([], []) hinv0 (L := [(p, f)]) (f := z) (now := now) (seed := seed) (may := [3, 4])
  have hask := AskedP.all (n := n) (mo := 200) (ea := 100) (L := [(p, f)]) (f := z) (now := now) (seed := seed) (may := [3, 4]) (T := []) List.Pairwise.nil (keysL [(p, f)])
  have hgone := GoneP.all (n := n) (mo := 200) (ea := 100) (L := [(p, f)]) (f := z) (now := now) (seed := seed) (may := [3, 4]) (fun q hq => by simp at hq; rw [hq]; exact hpr) (fun i _ => hz i)
  have hpee := nextS_ind (P := fun st : LT × LT => ∀ q ∈ st.1, q.2.p = p) (n := n) (mo := 200) (ea := 100) (L := [(p, f)]) (f := z) (now := now) (seed := seed) (may := [3, 4]) (keysL [(p, f)]) (fun p' hp' _ st st' h ha => by
    obtain ⟨x, _, _, _, _, rfl⟩ := askS_some ha
    intro q hq
    rcases mem_putO hq with e | e
    · rw [e]
      simpa [keysL] using hp'
    · exact h q e) ([], []) (by simp)
  have hrun : nextS n 200 100 [(p, f)] z now seed [3, 4] (keysL [(p, f)]) ([], []) = runS n 200 100 [(p, f)] z now seed p 300 ([], []) := by
    show nextS n 200 100 [(p, f)] z now seed [3, 4] [p] ([], []) = _
    show (if p ∈ [(3 : Int), 4] then runS n 200 100 [(p, f)] z now seed p 300 ([], []) else ([], [])) = _
    rw [if_pos hp]
  have hdone := runS_done (n := n) (mo := 200) (ea := 100) (L := [(p, f)]) (f := z) (now := now) (seed := seed) (p := p) (by decide) 300 ([], []) hinv0 (by simp)
  rw [← hrun] at hdone
  generalize nextS n 200 100 [(p, f)] z now seed [3, 4] (keysL [(p, f)]) ([], []) = R at *
  obtain ⟨T2, l2⟩ := R
  have hcz : cnt z n = 0 := by
    have : ∀ m, cnt z m = 0 := fun m => by
      induction m with
      | zero => rfl
      | succ m ih => unfold cnt; rw [ih, hz m]; rfl
    exact this n
  have hfree := hgone.free
  rw [hcz] at hfree
  dsimp only at hfree
  have hsub : ∀ x : Nat, x < n → outF n z T2 x = true → f x = true := fun x hx ho => by
    unfold outF at ho
    rw [decide_eq_true hx, hz x, Bool.true_and, Bool.false_or] at ho
    have h1 := hask.tab (x : Int)
    dsimp only at h1
    rw [ho] at h1
    have h2 := of_decide_eq_true h1.symm
    rw [show keysL ([] : LT) = [] from rfl, List.nil_append] at h2
    unfold keysL at h2
    obtain ⟨q, hq2, e⟩ := List.mem_map.1 h2
    obtain ⟨x', e1, _, ⟨o, ho2, hox⟩, _⟩ := hask.each q hq2
    rw [lk_one] at ho2
    split at ho2
    · cases ho2
      rw [e] at e1
      have : x = x' := by omega
      rw [this]; exact hox
    · cases ho2
  have hall : ∀ x : Nat, x < n → f x = true → outF n z T2 x = true := fun x hx hfx => by
    have hs := pickA_spec n [(p, f)] p (IntKind.u64.wrap (seed + (l2.length : Int))) (outF n z T2)
    unfold askS askAt pkS at hdone
    dsimp only at hdone
    rcases hs with ⟨e, ha⟩ | ⟨y, e, hy, _, hout⟩
    · exact ha f (by rw [lk_one, if_pos rfl]) x hx hfx
    · exfalso
      rw [e, if_neg (by omega)] at hdone
      have hl := (outF_none hy hout).2
      have hat := freeL_at (outF n z T2) hy hout
      have hlt := (List.getElem?_eq_some_iff.1 hat).1
      have hm := Fl.many_le T2 p
      have he : Fl.askE 200 100 T2 p y now = 0 := (askE_iff (by omega) (by omega) hq hl).2 (by unfold roomN; omega)
      rw [if_pos he] at hdone
      cases hdone
  have hEq : ∀ x, x < n → outF n z T2 x = f x := fun x hx => by
    cases h1 : f x with
    | true => exact hall x hx h1
    | false =>
      cases h2 : outF n z T2 x with
      | false => rfl
      | true => rw [hsub x hx h2] at h1; cases h1
  have hfe : freeL (outF n z T2) n 0 = freeL f n 0 := by
    have : ∀ m i, i + m ≤ n → freeL (outF n z T2) m i = freeL f m i := fun m => by
      induction m with
      | zero => intro i _; rfl
      | succ m ih =>
        intro i hi
        show (if outF n z T2 i = true then _ else _) = (if f i = true then _ else _)
        rw [hEq i (by omega), ih (i + 1) (by omega)]
    exact this n 0 (by omega)
  rw [hfe] at hfree
  have hfc := free_cnt f n
  have hlen := hask.len
  simp only [List.length_nil, Nat.zero_add] at hlen
  refine ⟨by dsimp only; omega, hpee, fun k => ?_, hinv⟩
  unfold hasB
  by_cases hk : 0 ≤ k
  · obtain ⟨x, rfl⟩ : ∃ x : Nat, k = (x : Int) := ⟨k.toNat, by omega⟩
    rw [decide_eq_true hk, Bool.true_and, Int.toNat_natCast]
    dsimp only
    by_cases hx : x < n
    · rw [← hEq x hx]
      unfold outF
      rw [decide_eq_true hx, hz x]
      simp
    · rw [hf x (by omega)]
      cases hl : lkL T2 (x : Int) with
      | none => rfl
      | some r =>
        have := hinv.kn _ (lk_some_mem hl)
        dsimp only at this
        omega
  · rw [decide_eq_false hk, Bool.false_and]
    dsimp only
    cases hl : lkL T2 k with
    | none => rfl
    | some r =>
      have := hinv.ok.rng _ (lk_some_mem hl)
      dsimp only at this
      omega
end Go.Proofs.YtjmfhcliggjdgaaDoor
