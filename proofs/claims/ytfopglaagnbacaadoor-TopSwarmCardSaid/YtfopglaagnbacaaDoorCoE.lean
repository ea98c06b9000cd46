/- Package conn: is a number in a list; the asking of one peer for one piece; of TrailingZeros64's table: as it is laid. -/
import Derived.Test.YtfopglaagnbacaaDoorCoD
import Derived.Test.YtfopglaagnbacaaDoorCoP
namespace Go.Proofs.YtfopglaagnbacaaDoor
open Go Go.RowKit

theorem sl_ints {w : World} {v : Value} {n : Nat} {xs : List Int} (h : Sl w v 1 n (intL xs)) : xs.length = n ∧ ∃ a c, v = .slice a n c ∧ ∀ i z, xs[i]? = some z → ∃ x, a = some x ∧ w.cell? (x.add i) = some (.int .i64 z) := by
  have hl := h.len
  rw [List.length_map, Nat.mul_one] at hl
  refine ⟨hl, ?_⟩
  rcases h with ⟨rfl, rfl, _⟩ | ⟨x, c, rfl, _, h⟩
  · exact ⟨none, 0, rfl, fun i z hi => by have := (List.getElem?_eq_some_iff.1 hi).1; omega⟩
  · exact ⟨some x, c, rfl, fun i z hi => ⟨x, rfl, h i _ (by rw [List.getElem?_map, hi]; rfl)⟩⟩
set_option maxRecDepth 100000 in
set_option maxHeartbeats 1000000 in
theorem idxInt (v : Value) (n : Nat) (xs : List Int) (p : Int) (w : World) (h : Sl w v 1 n (intL xs)) (hn : n ≤ 9007199254740992) :
    Calls Tryd.prog 39 #[v, .int .i64 p] w fun e w' => (∃ k : Int, e = .returned (.int .i64 k) ∧ decide (0 ≤ k) = decide (p ∈ xs)) ∧ w = w' := by
  obtain ⟨hl, a, c, rfl, hc⟩ := sl_ints h
  have HC := Lib.hid hc
  have HL := Lib.hid hl
  clear h hc hl
  go_enter Tryd.func39, Tryd.ntmps39
  go_wp2_with fail
  go_loopw [8] (fun i wr => ∃ k : Nat, i = .int .i64 k ∧ k ≤ n ∧ Hid (∀ j z, j < k → xs[j]? = some z → z ≠ p) ∧ wr = w) (fun i _ => n - (intOf i).toNat)
  case atStart => exact ⟨0, rfl, Nat.zero_le _, fun j z h => by omega, rfl⟩
  case round =>
    obtain ⟨k, rfl, hk, hno, rfl⟩ := hrel
    by_cases hlt : (k : Int) < n
    · obtain ⟨z, hz⟩ : ∃ z, xs[k]? = some z := ⟨_, List.getElem?_eq_getElem (by have := HL.out; omega)⟩
      obtain ⟨x, rfl, cz⟩ := HC.out k z hz
      have HZ := Lib.hid hz
      have hk1 : n - (k + 1) < n - k := by omega
      clear hz
      by_cases e : p = z
      · subst e
        go_wp2_with fail
        go_ret
        refine ⟨⟨_, rfl, ?_⟩, rfl⟩
        rw [decide_eq_true (List.mem_of_getElem? HZ.out)]
        simp
      · have e' : (p == z) = false := by simpa using e
        go_wp2_with fail
        go_roundw
        case rel =>
          refine ⟨k + 1, by go_num, by omega, fun j y hj hy => ?_, by first | trivial | rfl⟩
          by_cases hjk : j = k
          · subst hjk
            rw [HZ.out] at hy
            cases hy
            exact fun h => e h.symm
          · exact hno.out j y (by omega) hy
        case measure => simp [intOf]; omega
    · have hmem : ¬ p ∈ xs := fun hm => by
        obtain ⟨j, hj⟩ := List.getElem?_of_mem hm
        have := (List.getElem?_eq_some_iff.1 hj).1
        have := HL.out
        exact hno.out j p (by omega) hj rfl
      have HM : Hid (decide (p ∈ xs) = false) := by show _ = _; simpa using hmem
      clear hmem
      go_wp2_with fail
      go_ret
      exact ⟨⟨_, rfl, by have h := HM.out; simp at h; simp [h]⟩, rfl⟩
set_option maxHeartbeats 400000 in
theorem hasInt (v : Value) (n : Nat) (xs : List Int) (p : Int) (w : World) (h : Sl w v 1 n (intL xs)) (hn : n ≤ 9007199254740992) :
    Calls Tryd.prog 24 #[v, .int .i64 p] w fun e w' => e = .returned (.bool (decide (p ∈ xs))) ∧ w = w' := by
  have HI := Lib.hid (idxInt v n xs p w h hn)
  clear h
  go_enter Tryd.func24, Tryd.ntmps24
  go_wp2_with fail
  refine HI.out.mono ?_; rintro e w1 ⟨⟨k, rfl, hk⟩, rfl⟩
  have HKK := Lib.hid hk
  clear hk
  go_wp2_with fail
  go_ret
  exact ⟨by rw [← HKK.out]; rfl, rfl⟩

/-- One more request of a peer: the table and the list behind it; none: it is asked for nothing. -/
def pkS (n : Nat) (L : LB) (f : Nat → Bool) (seed p : Int) (st : LT × LT) : Int := pickA n L p (some (n, outF n f st.1)) (IntKind.u64.wrap (seed + st.2.length))
def askAt (mo ea now p k : Int) (st : LT × LT) : Option (LT × LT) :=
  if k < 0 then none else if Fl.askE mo ea st.1 p k now = 0 then some (putL st.1 k ⟨p, now⟩, st.2 ++ [(k, ⟨p, now⟩)]) else none
def askS (n : Nat) (mo ea : Int) (L : LB) (f : Nat → Bool) (now seed p : Int) (st : LT × LT) : Option (LT × LT) := askAt mo ea now p (pkS n L f seed p st) st
theorem pickA_spec (n : Nat) (L : LB) (p seed : Int) (F : Nat → Bool) : (pickA n L p (some (n, F)) seed = -1 ∧ ∀ o, lkL L p = some o → ∀ y, y < n → o y = true → F y = true) ∨ ∃ x : Nat, pickA n L p (some (n, F)) seed = x ∧ x < n ∧ (∃ o, lkL L p = some o ∧ o x = true) ∧ F x = false := by
  unfold pickA
  dsimp only
  rw [if_pos rfl]
  cases hl : lkL L p with
  | none => exact .inl ⟨rfl, fun o h => by cases h⟩
  | some o =>
    dsimp only
    rcases pickR_ok (cF L) (fLess o F) n seed with ⟨h1, h2⟩ | ⟨x, h1, h2, h3, _, _⟩
    · refine .inl ⟨h1, fun o' ho y hy hoy => ?_⟩
      cases ho
      have := h2 y hy
      unfold fLess at this
      rw [hoy, Bool.true_and] at this
      simpa using this
    · unfold fLess at h3
      rw [Bool.and_eq_true] at h3
      exact .inr ⟨x, h1, h2, ⟨o, rfl, h3.1⟩, by simpa using h3.2⟩

/-- The blocks of an asking. -/
def AskB (cs cn cd cl ct z zg s b M g t tM : Nat) (ks : List (Int × Ow)) (i : Nat) : Prop := SWb s b M g t tM ks i ∨ i = z ∨ i = zg ∨ i = cs ∨ i = cn ∨ i = cd ∨ i = cl ∨ i = ct
/-- What stays while Next asks. -/
structure AskK (base cs cn cd cl ct z zg s b M g t tM n : Nat) (mo : Int) (ks : List (Int × Ow)) (L : LB) : Prop where
  lt : ∀ i, AskB cs cn cd cl ct z zg s b M g t tM ks i → gTab < i ∧ i < base
  n1 : ¬ SWb s b M g t tM ks cl ∧ ¬ SWb s b M g t tM ks zg ∧ z ≠ tM
  n2 : z ≠ cl ∧ zg ≠ cl
  n3 : (cs ≠ tM ∧ cs ≠ zg ∧ cs ≠ cl) ∧ (cn ≠ tM ∧ cn ≠ zg ∧ cn ≠ cl) ∧ (cd ≠ tM ∧ cd ≠ zg ∧ cd ≠ cl) ∧ (ct ≠ tM ∧ ct ≠ zg ∧ ct ≠ cl)
  he : mapV Ow.f ks = L
  sm : mo ≤ 256 ∧ n ≤ 1024
/-- .. and what turns. -/
structure AskI (w : World) (base cs cn cd cl ct z zg s b M g t tM n : Nat) (pm mo ea pa now seed : Int) (ks : List (Int × Ow)) (f : Nat → Bool) (st : LT × LT) : Prop where
  sw : SW w s b M g t tM n pm mo ea pa ks st.1
  set : BSet w z zg n (outF n f st.1)
  b1 : w.cell? ⟨cs, 0, none⟩ = some (.pointer (some ⟨s, 0, none⟩))
  b2 : w.cell? ⟨cn, 0, none⟩ = some (.pointer (some ⟨z, 0, none⟩))
  b3 : w.cell? ⟨cd, 0, none⟩ = some (.int .u64 seed)
  b4 : ∃ v, Blk w cl #[v] 39 ∧ w.ownsRow base Fl.TRq 3 v st.2.length (Fl.rqL st.2)
  b5 : w.cell? ⟨ct, 0, none⟩ = some (.int .i64 now)
  ok : Fl.Okk mo ea st.1
  kn : ∀ q ∈ st.1, q.1 < (n : Int)
  ll : st.2.length ≤ st.1.length
  tab : TabW w
  bb : base ≤ w.heap.size
theorem AskI.new {w w' : World} {base cs cn cd cl ct z zg s b M g t tM n : Nat} {pm mo ea pa now seed : Int} {ks : List (Int × Ow)} {f : Nat → Bool} {st : LT × LT} (h : AskI w base cs cn cd cl ct z zg s b M g t tM n pm mo ea pa now seed ks f st) (hm : Mod (fun _ => False) w w') : AskI w' base cs cn cd cl ct z zg s b M g t tM n pm mo ea pa now seed ks f st := by
  obtain ⟨v, h1, h2⟩ := h.b4
  exact ⟨h.sw.new hm, h.set.mod hm (fun h => h) (fun h => h), hm.cell h.b1 (fun h => h), hm.cell h.b2 (fun h => h), hm.cell h.b3 (fun h => h), ⟨v, h1.mod hm (fun h => h), owns_modG h2 hm fun _ _ h => h⟩, hm.cell h.b5 (fun h => h), h.ok, h.kn, h.ll, h.tab.mod hm (fun h => h), Nat.le_trans h.bb hm.size⟩
/-- An asking that goes on: the table is written, the set, the list. -/
theorem AskI.more {w w2 w3 w4 w5 : World} {base cs cn cd cl ct z zg s b M g t tM n : Nat} {pm mo ea pa now seed : Int} {ks : List (Int × Ow)} {L : LB} {f : Nat → Bool} {T l : LT} (hK : AskK base cs cn cd cl ct z zg s b M g t tM n mo ks L) (h : AskI w base cs cn cd cl ct z zg s b M g t tM n pm mo ea pa now seed ks f (T, l)) {k : Nat} {p : Int} (hk : k < n) (he : Fl.askE mo ea T p k now = 0)
    (hT : Fl.TB w2 t tM mo ea pa (putL T (k : Int) ⟨p, now⟩)) (m2 : Mod (· = tM) w w2) (hS : BSet w3 z zg n (fil (outF n f T) k (k + 1) true)) (m3 : Mod (· = zg) w2 w3) {v v' : Value} (hv : Blk w cl #[v] 39) (m4 : Mod (fun i => base ≤ i) w3 w4) (ho : w4.ownsRow base Fl.TRq 3 v' (l.length + 1) (Fl.rqL (l ++ [((k : Int), ⟨p, now⟩)]))) (h5 : w5 = w4.setCell ⟨cl, 0, none⟩ v') :
    AskI w5 base cs cn cd cl ct z zg s b M g t tM n pm mo ea pa now seed ks f (putL T (k : Int) ⟨p, now⟩, l ++ [((k : Int), ⟨p, now⟩)]) ∧ Mod (fun i => i = tM ∨ i = zg ∨ i = cl ∨ base ≤ i) w w5 := by
  have m5 : Mod (· = cl) w4 w5 := by rw [h5]; exact (Mod.refl (· = cl) w4).set1 0 v'
  have hlk : lkL T (k : Int) = none := by
    cases hl : lkL T (k : Int) with
    | none => rfl
    | some o =>
      exfalso
      unfold Fl.askE at he
      rw [hl] at he
      split at he
      · cases he
      · simp at he
  have hlt := hK.lt
  have hcl := hlt cl (.inr (.inr (.inr (.inr (.inr (.inr (.inl rfl)))))))
  have hzg := hlt zg (.inr (.inr (.inl rfl)))
  have hz := hlt z (.inr (.inl rfl))
  have htM := hlt tM (.inl (.inr (.inr (.inr rfl))))
  have m35 : Mod (fun i => i = cl ∨ base ≤ i) w3 w5 := (m4.mono fun _ _ e => .inr e).trans (m5.mono fun _ _ e => .inl e)
  have m25 : Mod (fun i => i = zg ∨ i = cl ∨ base ≤ i) w2 w5 := (m3.mono fun _ _ e => .inl e).trans (m35.mono fun _ _ e => .inr e)
  have m05 : Mod (fun i => i = tM ∨ i = zg ∨ i = cl ∨ base ≤ i) w w5 := (m2.mono fun _ _ e => .inl e).trans (m25.mono fun _ _ e => .inr e)
  have hx : ∀ {i : Nat} {u : Value}, w.cell? ⟨i, 0, none⟩ = some u → i ≠ tM → i ≠ zg → i ≠ cl → i < base → w5.cell? ⟨i, 0, none⟩ = some u := fun hc h1 h2 h3 h4 => m05.cell hc (by rintro (e | e | e | e); exact h1 e; exact h2 e; exact h3 e; exact absurd e (by simpa using h4))
  have hB := fun i hi => (hlt i hi).2
  obtain ⟨⟨a1, a2, a3⟩, ⟨a4, a5, a6⟩, ⟨a7, a8, a9⟩, ⟨a10, a11, a12⟩⟩ := hK.n3
  refine ⟨⟨(h.sw.tmod hT m2).mod m25 fun i hi => ?_, ?_, hx h.b1 a1 a2 a3 (hB cs (.inr (.inr (.inr (.inl rfl))))), hx h.b2 a4 a5 a6 (hB cn (.inr (.inr (.inr (.inr (.inl rfl)))))), hx h.b3 a7 a8 a9 (hB cd (.inr (.inr (.inr (.inr (.inr (.inl rfl))))))), ⟨v', ?_, ?_⟩, hx h.b5 a10 a11 a12 (hB ct (.inr (.inr (.inr (.inr (.inr (.inr (.inr rfl)))))))), h.ok.put0 he, fun q hq => ?_, ?_, h.tab.mod m05 (by intro e; rcases e with e | e | e | e <;> omega), Nat.le_trans h.bb m05.size⟩, m05⟩
  · rintro (e | e | e)
    · exact hK.n1.2.1 (by rw [← e]; exact hi)
    · exact hK.n1.1 (by rw [← e]; exact hi)
    · have := hB i (.inl hi); omega
  · dsimp only
    rw [outF_put n f T k _ hk]
    exact hS.mod m35 (by rintro (e | e); exact hK.n2.1 e; omega) (by rintro (e | e); exact hK.n2.2 e; omega)
  · have h4 : Blk w4 cl #[v] 39 := (((show Blk w cl #[v] _ from hv).mod m2 (fun e => hK.n1.1 (.inr (.inr (.inr e))))).mod m3 (fun e => hK.n2.2 e.symm)).mod m4 (by omega)
    rw [h5]
    have := h4.set 0 v'
    simpa using this
  · dsimp only
    rw [List.length_append]
    exact owns_modG ho m5 fun i hi e => by omega
  · rcases mem_putO hq with e | e
    · rw [e]; dsimp only; omega
    · exact h.kn q e
  · dsimp only
    unfold putL
    rw [del_none hlk, length_insS, List.length_append]
    have := h.ll
    simp only [List.length_cons, List.length_nil]
    dsimp only at this
    omega

/-- An asking that is refused. -/
theorem AskI.kept {w w2 : World} {base cs cn cd cl ct z zg s b M g t tM n : Nat} {pm mo ea pa now seed : Int} {ks : List (Int × Ow)} {L : LB} {f : Nat → Bool} {T l : LT} (hK : AskK base cs cn cd cl ct z zg s b M g t tM n mo ks L) (h : AskI w base cs cn cd cl ct z zg s b M g t tM n pm mo ea pa now seed ks f (T, l))
    (hT : Fl.TB w2 t tM mo ea pa T) (m2 : Mod (· = tM) w w2) : AskI w2 base cs cn cd cl ct z zg s b M g t tM n pm mo ea pa now seed ks f (T, l) ∧ Mod (fun i => i = tM ∨ i = zg ∨ i = cl ∨ base ≤ i) w w2 := by
  obtain ⟨⟨a1, a2, a3⟩, ⟨a4, a5, a6⟩, ⟨a7, a8, a9⟩, ⟨a10, a11, a12⟩⟩ := hK.n3
  have htM := hK.lt tM (.inl (.inr (.inr (.inr rfl))))
  obtain ⟨v, hv, ho⟩ := h.b4
  exact ⟨⟨h.sw.tmod hT m2, h.set.mod m2 hK.n1.2.2 (fun e => hK.n1.2.1 (.inr (.inr (.inr e)))), m2.cell h.b1 a1, m2.cell h.b2 a4, m2.cell h.b3 a7, ⟨v, hv.mod m2 (fun e => hK.n1.1 (.inr (.inr (.inr e)))), owns_modG ho m2 fun i hi e => by omega⟩, m2.cell h.b5 a10, h.ok, h.kn, h.ll, h.tab.mod m2 (fun e => by omega), Nat.le_trans h.bb m2.size⟩, m2.mono fun _ _ e => .inl e⟩
theorem wrapU {x : Int} (h1 : 0 ≤ x) (h2 : x < 18446744073709551616) : IntKind.u64.wrap x = x := by unfold IntKind.wrap; simp [IntKind.bits, IntKind.signed]; omega
set_option maxRecDepth 100000 in
set_option maxHeartbeats 4000000 in
theorem connAsk (p : Int) (base cs cn cd cl ct z zg s b M g t tM n : Nat) (pm mo ea pa now seed : Int) (ks : List (Int × Ow)) (L : LB) (f : Nat → Bool) (st : LT × LT) (w : World) (hK : AskK base cs cn cd cl ct z zg s b M g t tM n mo ks L) (h : AskI w base cs cn cd cl ct z zg s b M g t tM n pm mo ea pa now seed ks f st) (hI : I64 p) :
    Calls Tryd.prog 20 #[.int .i64 p, .pointer (some ⟨cs, 0, none⟩), .pointer (some ⟨cn, 0, none⟩), .pointer (some ⟨cd, 0, none⟩), .pointer (some ⟨cl, 0, none⟩), .pointer (some ⟨ct, 0, none⟩)] w fun e w' => e = .returned (.bool (askS n mo ea L f now seed p st).isSome) ∧ AskI w' base cs cn cd cl ct z zg s b M g t tM n pm mo ea pa now seed ks f ((askS n mo ea L f now seed p st).getD st) ∧ Mod (fun i => i = tM ∨ i = zg ∨ i = cl ∨ base ≤ i) w w' := by
  obtain ⟨T, l⟩ := st
  have hsm := hK.sm
  have hlen : T.length ≤ 256 := by have := h.ok.len; dsimp only at this; omega
  have hll : l.length ≤ 256 := by have := h.ll; dsimp only at this; omega
  obtain ⟨k, hk⟩ : ∃ k, k = pkS n L f seed p (T, l) := ⟨_, rfl⟩
  obtain ⟨sd, hsd⟩ : ∃ x, x = IntKind.u64.wrap (seed + (l.length : Int)) := ⟨_, rfl⟩
  have hkd : pickA n L p (some (n, outF n f T)) sd = k := by rw [hk, hsd]; rfl
  have hspec := pickA_spec n L p sd (outF n f T)
  rw [hkd] at hspec
  obtain ⟨R, hR⟩ : ∃ R, R = askS n mo ea L f now seed p (T, l) := ⟨_, rfl⟩
  have hRk : R = askAt mo ea now p k (T, l) := by rw [hR, hk]; rfl
  rw [← hR]
  have hP : ∀ rn : Nat, Calls Tryd.prog 21 #[.pointer (some ⟨b, 0, none⟩), .int .i64 p, .pointer (some ⟨z, 0, none⟩), .int .u64 sd] (w.drewN rn) fun e w' => e = .returned (.int .i64 k) ∧ Mod (fun _ => False) (w.drewN rn) w' := fun rn => by
    have hm := (Mod.refl (fun _ => False) w).drewN rn
    have hz := h.set.mod hm (fun h => h) (fun h => h)
    have := codePick p sd (some z) (some (n, outF n f T)) b M g n pm ks L (w.drewN rn) (h.sw.bd.new hm) hK.he (h.tab.mod hm fun h => h) hsm.2 hI (lo := 0) (.inr ⟨z, zg, n, _, rfl, rfl, hz, Nat.zero_le _, Nat.zero_le _⟩)
    rw [hkd] at this
    exact this
  have HP := Lib.hid hP
  obtain ⟨v, hv, ho⟩ := h.b4
  dsimp only at ho
  obtain ⟨a0, cap, rfl, _, _, _⟩ := ho.els
  have a1 := h.b1; have a2 := h.b2; have a3 := h.b3; have a5 := h.b5
  have a4 : w.cell? ⟨cl, 0, none⟩ = some (.slice a0 l.length cap) := hv.cell 0
  have a6 := h.sw.at.2.1
  have a7 := h.sw.at.2.2
  have hw1 : IntKind.u64.wrap (l.length : Int) = l.length := wrapU (by omega) (by omega)
  have hw2 : IntKind.u64.wrap (seed + (l.length : Int)) = sd := hsd.symm
  have HK := Lib.hid hK
  have HI := Lib.hid h
  have HII := Lib.hid hI
  have HSP := Lib.hid hspec
  have HRK := Lib.hid hRk
  have HLN := Lib.hid hlen
  clear hK h hI hP hk hsd hkd hspec hR hRk hsm hv ho hlen
  by_cases hk0 : k < 0
  · have hRn : R = none := by rw [HRK.out]; unfold askAt; rw [if_pos hk0]
    subst hRn
    go_enter Tryd.func20, Tryd.ntmps20
    go_wp2_with fail
    refine wp_region2 [] [] (by kernel_rfl) (by kernel_rfl) ?_
    repeat (first | (refine reg_anyT (by rfl) (fun K hK => ?_); go_simp; refine hK _ _ ?_; clear hK K) | (refine reg_read (by rfl) (fun K hK => ?_); go_simp; refine hK _ _ ?_; clear hK K))
    refine reg_eff (by rfl) (fun rn K hK => ?_); go_simp
    refine (HP.out rn).mono ?_; rintro e w' ⟨rfl, m1⟩
    refine hK _ _ ?_; clear hK K
    repeat (first | (refine reg_anyT (by rfl) (fun K hK => ?_); go_simp; refine hK _ _ ?_; clear hK K) | (refine reg_read (by rfl) (fun K hK => ?_); go_simp; refine hK _ _ ?_; clear hK K))
    refine reg_nil (fun nd => ?_)
    have HI1 := Lib.hid (HI.out.new (m1.undrew.drewN nd))
    have M1 := Lib.hid (m1.undrew.drewN nd)
    clear m1 a1 a2 a3 a4 a5 a6 a7 HI HP
    generalize World.drewN w' nd = w1 at *
    clear w'
    have a1 := HI1.out.b1
    have a5 := HI1.out.b5
    have a7 := HI1.out.sw.at.2.2
    have b0 : decide (k < 0) = true := by simpa using hk0
    go_wp2_with fail
    go_quiet (fail)
    go_wp2_with fail
    go_ret
    exact ⟨rfl, HI1.out.new ((Mod.refl _ w1).drewN _), (M1.out.drewN _).mono fun _ _ e => e.elim⟩
  · obtain ⟨j, rfl⟩ : ∃ j : Nat, k = (j : Int) := ⟨k.toNat, by omega⟩
    have HJN : Hid (j < n) := by
      rcases HSP.out with ⟨h1, _⟩ | ⟨x, h1, h2, _⟩
      · exfalso; omega
      · show j < n; omega
    have HJI : Hid (I64 (j : Int)) := Fl.i64_of (by omega) (by have := HJN.out; have := HK.out.sm; omega)
    obtain ⟨E, hE⟩ : ∃ E, E = Fl.askE mo ea T p j now := ⟨_, rfl⟩
    have HE := Lib.hid hE
    have b0 : decide ((j : Int) < 0) = false := by simp
    by_cases he : E = 0
    · have hRs : R = some (putL T (j : Int) ⟨p, now⟩, l ++ [((j : Int), ⟨p, now⟩)]) := by rw [HRK.out]; unfold askAt; rw [if_neg (by omega)]; dsimp only; rw [← hE, if_pos he]
      subst hRs
      have hK : Fl.askK mo ea T p j now = putL T j ⟨p, now⟩ := by unfold Fl.askK; rw [← hE, if_pos he]
      have HKK := Lib.hid hK
      clear hK hE
      subst he
      go_enter Tryd.func20, Tryd.ntmps20
      go_wp2_with fail
      refine wp_region2 [] [] (by kernel_rfl) (by kernel_rfl) ?_
      repeat (first | (refine reg_anyT (by rfl) (fun K hK => ?_); go_simp; refine hK _ _ ?_; clear hK K) | (refine reg_read (by rfl) (fun K hK => ?_); go_simp; refine hK _ _ ?_; clear hK K))
      refine reg_eff (by rfl) (fun rn K hK => ?_); go_simp
      refine (HP.out rn).mono ?_; rintro e w' ⟨rfl, m1⟩
      refine hK _ _ ?_; clear hK K
      repeat (first | (refine reg_anyT (by rfl) (fun K hK => ?_); go_simp; refine hK _ _ ?_; clear hK K) | (refine reg_read (by rfl) (fun K hK => ?_); go_simp; refine hK _ _ ?_; clear hK K))
      refine reg_nil (fun nd => ?_)
      have HI1 := Lib.hid (HI.out.new (m1.undrew.drewN nd))
      have M1 := Lib.hid (m1.undrew.drewN nd)
      clear m1 a1 a2 a3 a4 a5 a6 a7 HI HP
      generalize World.drewN w' nd = w1 at *
      clear w'
      have a1 := HI1.out.b1
      have a5 := HI1.out.b5
      have a7 := HI1.out.sw.at.2.2
      have hA : ∀ rn : Nat, Calls Tryd.prog 22 #[.pointer (some ⟨t, 0, none⟩), .int .i64 p, .int .i64 j, .int .i64 now] (w1.drewN rn) fun e w' => e = .returned (.int .i64 0) ∧ Fl.TB w' t tM mo ea pa (putL T (j : Int) ⟨p, now⟩) ∧ Mod (· = tM) (w1.drewN rn) w' := fun rn => by
        have := Fl.flAsk p j now t tM mo ea pa T (w1.drewN rn) HJI.out (HI1.out.sw.tb.drewN rn) (by have := HLN.out; omega)
        rw [← HE.out, HKK.out] at this
        exact this
      have HA := Lib.hid hA
      clear hA
      go_wp2_with fail
      refine wp_region2 [] [] (by kernel_rfl) (by kernel_rfl) ?_
      repeat (first | (refine reg_anyT (by rfl) (fun K hK => ?_); go_simp; refine hK _ _ ?_; clear hK K) | (refine reg_read (by rfl) (fun K hK => ?_); go_simp; refine hK _ _ ?_; clear hK K))
      refine reg_eff (by rfl) (fun rn K hK => ?_); go_simp
      refine (HA.out rn).mono ?_; rintro e w' ⟨rfl, h2, m2⟩
      refine hK _ _ ?_; clear hK K
      repeat (first | (refine reg_anyT (by rfl) (fun K hK => ?_); go_simp; refine hK _ _ ?_; clear hK K) | (refine reg_read (by rfl) (fun K hK => ?_); go_simp; refine hK _ _ ?_; clear hK K))
      refine reg_nil (fun nd2 => ?_)
      have HT2 := Lib.hid (h2.drewN nd2)
      have M2 := Lib.hid (m2.undrew.drewN nd2)
      clear h2 m2 a1 a5 a7 HA
      generalize World.drewN w' nd2 = w2 at *
      clear w'
      obtain ⟨v, hv, ho⟩ := HI1.out.b4
      dsimp only at ho
      obtain ⟨a0, cap, rfl, _, _, _⟩ := ho.els
      have HV := Lib.hid hv
      obtain ⟨⟨n1, n2, n3⟩, ⟨n4, n5, n6⟩, ⟨n7, n8, n9⟩, ⟨n10, n11, n12⟩⟩ := HK.out.n3
      have HLT := Lib.hid HK.out.lt
      have a2 := M2.out.cell HI1.out.b2 n4
      have HA4 := Lib.hid (show Blk w2 cl _ _ from hv.mod M2.out (fun e => HK.out.n1.1 (.inr (.inr (.inr e)))))
      have HA5 := Lib.hid (M2.out.cell HI1.out.b5 n10)
      have htM : tM < base := (HLT.out tM (.inl (.inr (.inr (.inr rfl))))).2
      have HO2 := Lib.hid (owns_modG ho M2.out (fun i hi e => by omega))
      have HS2 := Lib.hid (HI1.out.set.mod M2.out HK.out.n1.2.2 (fun e => HK.out.n1.2.1 (.inr (.inr (.inr e)))))
      dsimp only at HS2
      clear ho hv htM n1 n2 n3 n4 n5 n6 n7 n8 n9 n10
      go_wp2_with fail
      refine (bitsPut z zg n (outF n f T) j true w2 HS2.out HJN.out).mono ?_; rintro e w3 ⟨rfl, h3, m3⟩
      have HS3 := Lib.hid h3
      have M3 := Lib.hid m3
      have a5 := m3.cell HA5.out n11
      have hb4 := HA4.out.mod m3 (fun e => HK.out.n2.2 e.symm)
      have a4 : w3.cell? ⟨cl, 0, none⟩ = some (.slice a0 l.length cap) := hb4.cell 0
      have HB4 := Lib.hid (show Blk w3 cl _ _ from hb4)
      have HO3 := Lib.hid (owns_modG HO2.out m3 (fun i hi e => by have := (HLT.out zg (.inr (.inr (.inl rfl)))).2; omega))
      have HCB := Lib.hid ((HLT.out cl (.inr (.inr (.inr (.inr (.inr (.inr (.inl rfl)))))))).2)
      have HBB : Hid (base ≤ w3.heap.size) := by have := HI1.out.bb; have := M2.out.size; have := m3.size; show base ≤ _; omega
      clear h3 m3 hb4 a2 n11 n12 HS2 HO2 HA4 HA5
      go_wp2_with (at_builtin; refine app1 (base := base) rfl (.tmp 37) (.tmp 42) 39 Fl.TRq 3 rfl Tryd.underlying39 Fl.infoRq rfl (by decide) _ _ _ _ 1 [.int .i64 p, .int .i64 j, .int .i64 now] (by have := HBB.out; simp; omega) (HO3.out.alloc _) rfl rfl (sl_new w3 _ _) (by simp [Value.oneCell']) (by decide) (by omega) ?_; intro v' w4 g1 g2 g3
                   obtain ⟨a4', cap4, rfl, _, _, _⟩ := g1.els
                   have G1 := Lib.hid g1
                   have G2 := Lib.hid ((((Mod.refl _ w3).alloc (.cells #[.int .i64 p, .int .i64 j, .int .i64 now] Fl.TRq)).trans g2).mono (S' := fun i => base ≤ i) fun i _ e => own_ge HO3.out i e)
                   have hb4 : Blk w4 cl _ _ := HB4.out.mod G2.out (by have := HCB.out; omega)
                   have f4 : w4.frozen? ⟨cl, 0, none⟩ = false := hb4.frozen 0
                   have c4 : w4.cell? ⟨cl, 0, none⟩ = some (.slice a0 l.length cap) := hb4.cell 0
                   clear hb4
                   clear g1 g2 g3)
      rw [← rqL_put l (j : Int) ⟨p, now⟩] at G1
      have HM := Lib.hid (AskI.more HK.out HI1.out HJN.out HE.out.symm HT2.out M2.out HS3.out M3.out HV.out G2.out G1.out rfl)
      go_ret
      exact ⟨rfl, HM.out.1, (M1.out.mono fun _ _ e => e.elim).trans HM.out.2⟩
    · have hRs : R = none := by rw [HRK.out]; unfold askAt; rw [if_neg (by omega)]; dsimp only; rw [← hE, if_neg he]
      subst hRs
      have hK : Fl.askK mo ea T p j now = T := by unfold Fl.askK; rw [← hE, if_neg he]
      have HKK := Lib.hid hK
      have he' : (E == 0) = false := by simpa using he
      clear hK hE he
      go_enter Tryd.func20, Tryd.ntmps20
      go_wp2_with fail
      refine wp_region2 [] [] (by kernel_rfl) (by kernel_rfl) ?_
      repeat (first | (refine reg_anyT (by rfl) (fun K hK => ?_); go_simp; refine hK _ _ ?_; clear hK K) | (refine reg_read (by rfl) (fun K hK => ?_); go_simp; refine hK _ _ ?_; clear hK K))
      refine reg_eff (by rfl) (fun rn K hK => ?_); go_simp
      refine (HP.out rn).mono ?_; rintro e w' ⟨rfl, m1⟩
      refine hK _ _ ?_; clear hK K
      repeat (first | (refine reg_anyT (by rfl) (fun K hK => ?_); go_simp; refine hK _ _ ?_; clear hK K) | (refine reg_read (by rfl) (fun K hK => ?_); go_simp; refine hK _ _ ?_; clear hK K))
      refine reg_nil (fun nd => ?_)
      have HI1 := Lib.hid (HI.out.new (m1.undrew.drewN nd))
      have M1 := Lib.hid (m1.undrew.drewN nd)
      clear m1 a1 a2 a3 a4 a5 a6 a7 HI HP
      generalize World.drewN w' nd = w1 at *
      clear w'
      have a1 := HI1.out.b1
      have a5 := HI1.out.b5
      have a7 := HI1.out.sw.at.2.2
      have hA : ∀ rn : Nat, Calls Tryd.prog 22 #[.pointer (some ⟨t, 0, none⟩), .int .i64 p, .int .i64 j, .int .i64 now] (w1.drewN rn) fun e w' => e = .returned (.int .i64 E) ∧ Fl.TB w' t tM mo ea pa T ∧ Mod (· = tM) (w1.drewN rn) w' := fun rn => by
        have := Fl.flAsk p j now t tM mo ea pa T (w1.drewN rn) HJI.out (HI1.out.sw.tb.drewN rn) (by have := HLN.out; omega)
        rw [← HE.out, HKK.out] at this
        exact this
      have HA := Lib.hid hA
      clear hA
      go_wp2_with fail
      refine wp_region2 [] [] (by kernel_rfl) (by kernel_rfl) ?_
      repeat (first | (refine reg_anyT (by rfl) (fun K hK => ?_); go_simp; refine hK _ _ ?_; clear hK K) | (refine reg_read (by rfl) (fun K hK => ?_); go_simp; refine hK _ _ ?_; clear hK K))
      refine reg_eff (by rfl) (fun rn K hK => ?_); go_simp
      refine (HA.out rn).mono ?_; rintro e w' ⟨rfl, h2, m2⟩
      refine hK _ _ ?_; clear hK K
      repeat (first | (refine reg_anyT (by rfl) (fun K hK => ?_); go_simp; refine hK _ _ ?_; clear hK K) | (refine reg_read (by rfl) (fun K hK => ?_); go_simp; refine hK _ _ ?_; clear hK K))
      refine reg_nil (fun nd2 => ?_)
      have HT2 := Lib.hid (h2.drewN nd2)
      have M2 := Lib.hid (m2.undrew.drewN nd2)
      clear h2 m2 a1 a5 a7 HA
      generalize World.drewN w' nd2 = w2 at *
      clear w'
      have HM := Lib.hid (AskI.kept HK.out HI1.out HT2.out M2.out)
      go_wp2_with fail
      go_ret
      exact ⟨rfl, HM.out.1, (M1.out.mono fun _ _ e => e.elim).trans HM.out.2⟩
end Go.Proofs.YtfopglaagnbacaaDoor
