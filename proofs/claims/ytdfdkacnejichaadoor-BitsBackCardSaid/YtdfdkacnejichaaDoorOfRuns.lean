/- OfRuns of package bits, and of the reference; no condition. -/
import Derived.Test.YtdfdkacnejichaaDoorRuns
import Derived.Test.YtdfdkacnejichaaDoorAlike
namespace Go.Proofs.YtdfdkacnejichaaDoor
open Go Go.RowKit Go.IntWalk

/-- The places that runs tell. -/
def sg : Bool → List Int → Nat → Bool
  | _, [], _ => false
  | one, r :: t, x => if x < r.toNat then one else sg (!one) t (x - r.toNat)
/-- How many places the first k runs are. -/
def pz : List Int → Nat → Int
  | _, 0 => 0
  | [], _ + 1 => 0
  | r :: t, k + 1 => r + pz t k
def od (k : Nat) : Bool := decide (k % 2 = 1)
theorem od_succ (k : Nat) : od (k + 1) = !od k := by
  unfold od
  rcases Nat.mod_two_eq_zero_or_one k with h | h
  · have : (k + 1) % 2 = 1 := by omega
    simp [h, this]
  · have : (k + 1) % 2 = 0 := by omega
    simp [h, this]
theorem pz_succ : ∀ (rs : List Int) (k : Nat) (r : Int), rs[k]? = some r → pz rs (k + 1) = pz rs k + r
  | [], k, r, h => by simp at h
  | a :: t, 0, r, h => by simp at h; subst h; show a + pz t 0 = 0 + a; cases t <;> simp [pz]
  | a :: t, k + 1, r, h => by
    have := pz_succ t k r (by simpa using h)
    show a + pz t (k + 1) = a + pz t k + r
    omega
/-- All runs up to the k-th are no less than nothing. -/
def NonNeg (rs : List Int) (k : Nat) : Prop := ∀ j r, j < k → rs[j]? = some r → 0 ≤ r
theorem pz_nonneg : ∀ (rs : List Int) (k : Nat), NonNeg rs k → 0 ≤ pz rs k
  | _, 0, _ => by cases ‹List Int› <;> exact Int.le_refl _
  | [], k + 1, _ => Int.le_refl _
  | a :: t, k + 1, h => by
    have h1 := pz_nonneg t k (fun j r hj hr => h (j + 1) r (by omega) (by simpa using hr))
    have h2 := h 0 a (by omega) rfl
    show 0 ≤ a + pz t k
    omega
theorem sg_at : ∀ (rs : List Int) (k : Nat) (r : Int) (one : Bool) (x : Nat), rs[k]? = some r → NonNeg rs k → pz rs k ≤ x → (x : Int) < pz rs k + r → sg one rs x = (one ^^ od k)
  | [], k, r, one, x, h, _, _, _ => by simp at h
  | a :: t, 0, r, one, x, h, _, h1, h2 => by
    simp at h
    subst h
    have h0 : pz (a :: t) 0 = 0 := rfl
    show (if x < a.toNat then one else _) = _
    rw [if_pos (by omega)]
    simp [od]
  | a :: t, k + 1, r, one, x, h, hn, h1, h2 => by
    have ha := hn 0 a (by omega) rfl
    have hn' : NonNeg t k := fun j r hj hr => hn (j + 1) r (by omega) (by simpa using hr)
    have hp := pz_nonneg t k hn'
    have e : pz (a :: t) (k + 1) = a + pz t k := rfl
    rw [e] at h1 h2
    show (if x < a.toNat then one else sg (!one) t (x - a.toNat)) = _
    rw [if_neg (by omega), sg_at t k r (!one) (x - a.toNat) (by simpa using h) hn' (by omega) (by omega), od_succ]
    cases one <;> cases od k <;> rfl
theorem sg_out : ∀ (rs : List Int) (one : Bool) (x : Nat), NonNeg rs rs.length → pz rs rs.length ≤ x → sg one rs x = false
  | [], _, _, _, _ => rfl
  | a :: t, one, x, hn, h => by
    have ha := hn 0 a (by simp) rfl
    have hn' : NonNeg t t.length := fun j r hj hr => hn (j + 1) r (by simp; omega) (by simpa using hr)
    have hp := pz_nonneg t t.length hn'
    have e : pz (a :: t) (t.length + 1) = a + pz t t.length := rfl
    rw [List.length_cons, e] at h
    show (if x < a.toNat then one else sg (!one) t (x - a.toNat)) = _
    rw [if_neg (by omega)]
    exact sg_out t _ _ hn' (by omega)

/-- A run that may stand at place k. -/
def GoodR (n : Nat) (rs : List Int) (k : Nat) : Prop := ∀ r, rs[k]? = some r → 0 ≤ r ∧ r ≤ n - pz rs k ∧ (r = 0 → k = 0 ∧ n ≠ 0)
/-- Runs that are a set of n places. -/
def OkR (n : Nat) (rs : List Int) : Prop := (∀ k, GoodR n rs k) ∧ pz rs rs.length = n
theorem nonneg_of {n : Nat} {rs : List Int} {k : Nat} (h : ∀ j, j < k → GoodR n rs j) : NonNeg rs k := fun j r hj hr => (h j hj r hr).1
theorem seg_upto {n : Nat} {rs : List Int} {k a ρ : Nat} (hg : ∀ j, j < k → GoodR n rs j) (hr : rs[k]? = some (ρ : Int)) (ha : pz rs k = a) : fil (upto (sg false rs) a) a (a + ρ) (od k) = upto (sg false rs) (a + ρ) := by
  funext x
  unfold fil upto
  by_cases h : a ≤ x ∧ x < a + ρ
  · rw [if_pos h, sg_at rs k ρ false x hr (nonneg_of hg) (by omega) (by omega)]
    simp [h.2]
  · rw [if_neg h]
    by_cases h2 : x < a
    · have : x < a + ρ := by omega
      simp [h2, this]
    · have : ¬ x < a + ρ := by omega
      simp [h2, this]
theorem pz_le {n : Nat} {rs : List Int} : ∀ k, k ≤ rs.length → (∀ j, j < k → GoodR n rs j) → pz rs k ≤ n
  | 0, _, _ => by have : pz rs 0 = 0 := by cases rs <;> rfl
                  omega
  | k + 1, hk, h => by
    obtain ⟨r, hr⟩ : ∃ r, rs[k]? = some r := ⟨_, List.getElem?_eq_getElem (by omega)⟩
    have := (h k (by omega) r hr).2.1
    rw [pz_succ rs k r hr]
    omega
/-- The places that good runs tell have these runs. -/
theorem rl_runs {n : Nat} {rs : List Int} (h : OkR n rs) : ∀ m k, k ≤ rs.length → rs.length ≤ k + m → rl (sg false rs) n m (pz rs k).toNat (od k) = rs.drop k
  | 0, k, h1, h2 => by
    rw [List.drop_of_length_le (by omega)]
    rfl
  | m + 1, k, h1, h2 => by
    have hg := nonneg_of (k := k) (fun j _ => h.1 j)
    have h0 := pz_nonneg rs k hg
    by_cases e : k = rs.length
    · subst e
      rw [List.drop_of_length_le (Nat.le_refl _), rl_end]
      have := h.2
      omega
    · have hkl : k < rs.length := by omega
      obtain ⟨r, hr⟩ : ∃ r, rs[k]? = some r := ⟨_, List.getElem?_eq_getElem hkl⟩
      obtain ⟨g1, g2, g3⟩ := h.1 k r hr
      have hps := pz_succ rs k r hr
      have hlt : (pz rs k).toNat < n := by
        by_cases r0 : r = 0
        · obtain ⟨hk0, hn⟩ := g3 r0
          subst hk0
          have : pz rs 0 = 0 := by cases rs <;> rfl
          omega
        · omega
      have hen : en (sg false rs) n (pz rs k).toNat (od k) = (pz rs (k + 1)).toNat := by
        refine en_eq (by omega) (by omega) (fun j a b => ?_) (fun hl => ?_)
        · rw [sg_at rs k r false j hr hg (by omega) (by omega)]
          simp
        · have hkl2 : k + 1 < rs.length := by
            apply Classical.byContradiction
            intro hno
            have e2 : k + 1 = rs.length := by omega
            have := h.2
            rw [← e2] at this
            omega
          obtain ⟨r', hr'⟩ : ∃ r, rs[k + 1]? = some r := ⟨_, List.getElem?_eq_getElem hkl2⟩
          obtain ⟨q1, q2, q3⟩ := h.1 (k + 1) r' hr'
          have hr0 : r' ≠ 0 := fun e => by have := (q3 e).1; omega
          rw [sg_at rs (k + 1) r' false _ hr' (nonneg_of (fun j _ => h.1 j)) (by omega) (by omega), od_succ]
          simp
      rw [rl_step _ _ _ _ _ hlt, hen, ← od_succ, rl_runs h m (k + 1) (by omega) (by omega), List.drop_eq_getElem_cons hkl]
      rw [List.getElem?_eq_getElem hkl] at hr
      simp only [Option.some.injEq] at hr
      rw [hr]
      congr 1
      omega
theorem len_le {n : Nat} {rs : List Int} (h : OkR n rs) : ∀ k, k ≤ rs.length → (k : Int) - 1 ≤ pz rs k
  | 0, _ => by have : pz rs 0 = 0 := by cases rs <;> rfl
               omega
  | k + 1, hk => by
    obtain ⟨r, hr⟩ : ∃ r, rs[k]? = some r := ⟨_, List.getElem?_eq_getElem (by omega)⟩
    obtain ⟨g1, _, g3⟩ := h.1 k r hr
    have := len_le h k (by omega)
    rw [pz_succ rs k r hr]
    by_cases r0 : r = 0
    · have := (g3 r0).1
      subst this
      have : pz rs 0 = 0 := by cases rs <;> rfl
      omega
    · omega
theorem runsOf_ok {n : Nat} {rs : List Int} (h : OkR n rs) : runsOf (sg false rs) n = rs := by
  have h1 := len_le h rs.length (Nat.le_refl _)
  have h2 := h.2
  have h3 := rl_runs h (2 * n + 2) 0 (Nat.zero_le _) (by omega)
  have : pz rs 0 = 0 := by cases rs <;> rfl
  rw [this] at h3
  exact h3
theorem upto_all {n : Nat} {rs : List Int} (h : OkR n rs) : upto (sg false rs) n = sg false rs := by
  funext x
  unfold upto
  by_cases hx : x < n
  · simp [hx]
  · have := sg_out rs false x (nonneg_of (fun j _ => h.1 j)) (by rw [h.2]; omega)
    simp [this]

theorem and1 (a : Nat) (ha : a < 9223372036854775808) : bits .and .i64 (a : Int) 1 = ((a % 2 : Nat) : Int) := by
  have h1 : (BitVec.ofInt 64 (a : Int)).toNat = a := by
    rw [BitVec.ofInt_natCast, BitVec.toNat_ofNat]; exact Nat.mod_eq_of_lt (by omega)
  have h2 : (BitVec.ofInt 64 1).toNat = 1 := by decide
  show IntKind.i64.wrap ((BitVec.ofInt 64 (a : Int) &&& BitVec.ofInt 64 1).toNat : Int) = _
  rw [BitVec.toNat_and, h1, h2, Nat.and_one_is_mod, IntKind.wrap_i64]
  omega
theorem odB (k : Nat) : decide (((k % 2 : Nat) : Int) = 1) = od k := by
  unfold od
  congr 1
  simp; omega
theorem odB3 (k : Nat) : (((k : Int) % 2) == 1) = od k := by
  unfold od
  rw [Bool.eq_iff_iff]
  simp; omega
theorem odB4 (k : Nat) : decide (((k : Int) % 2) = 1) = od k := odB3 k
theorem odB5 (k : Nat) (hk : k < 9223372036854775808) : (bits .and .i64 (k : Int) 1 == 1) = od k := by rw [and1 k hk]; exact odB k
theorem odB2 (k : Nat) : (((k % 2 : Nat) : Int) == 1) = od k := odB k

theorem bitsOfRunsBad (n : Int) (sv : Value) (w : World) (h : n < 0 ∨ 65536 < n) :
    Calls Tryd.prog 23 #[.int .i64 n, sv] w fun e w' => e = .returned (.tuple #[.pointer none, .int .i64 1]) ∧ w = w' := by
  go_enter Tryd.func23, Tryd.ntmps23
  go_wp2_with fail
  refine (bitsNewBad n _ h).mono ?_; rintro e w' ⟨rfl, rfl⟩
  go_wp2_with fail
  go_ret2
  exact ⟨rfl, rfl⟩
theorem refOfRunsBad (n : Int) (sv : Value) (w : World) (h : n < 0 ∨ 65536 < n) :
    Calls Tryd.prog 24 #[.int .i64 n, sv] w fun e w' => e = .returned (.tuple #[.pointer none, .int .i64 1]) ∧ w = w' := by
  go_enter Tryd.func24, Tryd.ntmps24
  go_wp2_with fail
  refine (refNewBad n _ h).mono ?_; rintro e w' ⟨rfl, rfl⟩
  go_wp2_with fail
  go_ret2
  exact ⟨rfl, rfl⟩

/-- What OfRuns hands back. -/
def bitsOfRunsP (n : Nat) (rs : List Int) (w : World) (e : Ending) (w' : World) : Prop :=
  Mod (fun _ => False) w w' ∧ ((OkR n rs ∧ ∃ b g : Nat, e = .returned (.tuple #[.pointer (some ⟨b, 0, none⟩), .int .i64 0]) ∧ BSet w' b g n (sg false rs) ∧ w.heap.size ≤ b ∧ w.heap.size ≤ g) ∨ (¬ OkR n rs ∧ e = .returned (.tuple #[.pointer none, .int .i64 2])))
set_option maxRecDepth 100000 in
set_option maxHeartbeats 2000000 in
theorem bitsOfRuns (n : Nat) (hn : n ≤ 65536) (sv : Value) (rs : List Int) (w : World) (hs : Sl w sv 1 rs.length (intL rs)) (hlen : (rs.length : Int) ≤ 9223372036854775807) :
    Calls Tryd.prog 23 #[.int .i64 n, sv] w (bitsOfRunsP n rs w) := by
  obtain ⟨a, c, rfl, fs⟩ := hs.form
  obtain ⟨len, hl⟩ : ∃ len, len = rs.length := ⟨_, rfl⟩
  rw [← hl] at hlen ⊢
  have hFS := Lib.hid fs
  have HL := Lib.hid hl
  clear hs fs hl
  go_enter Tryd.func23, Tryd.ntmps23
  go_wp2_with fail
  refine (bitsNew n _ hn).mono ?_; rintro e w1 ⟨rfl, s1, m1⟩
  obtain ⟨B, hB⟩ : ∃ B, B = w.heap.size := ⟨_, rfl⟩
  rw [← hB] at s1 ⊢
  have e0 : (fun _ => false) = upto (sg false rs) 0 := by funext x; simp [upto]
  rw [e0] at s1
  have S1 := Lib.hid s1
  have HB := Lib.hid hB
  clear s1 e0 hB
  go_wp2_with fail
  go_loopw [8, 21] (fun u v wr => ∃ k a' : Nat, u = .int .i64 a' ∧ v = .int .i64 k ∧ k ≤ len ∧ a' ≤ n ∧ Hid (pz rs k = a') ∧ Hid (∀ j, j < k → GoodR n rs j) ∧ Hid (BSet wr (B + 1) B n (upto (sg false rs) a')) ∧ Mod (· = B) w1 wr) (fun _ v _ => len - (intOf v).toNat)
  case atStart => exact ⟨0, 0, rfl, rfl, Nat.zero_le _, Nat.zero_le _, by show pz rs 0 = 0; cases rs <;> rfl, fun j hj => by omega, S1, Mod.refl _ _⟩
  case round =>
    obtain ⟨k, a', rfl, rfl, hk, han, hpz, hgd, hset, hm⟩ := hrel
    have M2 := Lib.hid (m1.new hm (by intro i hi; have := HB.out; omega))
    by_cases hlt : k < len
    · obtain ⟨r, hr⟩ : ∃ r, rs[k]? = some r := ⟨_, List.getElem?_eq_getElem (by rw [← HL.out]; exact hlt)⟩
      obtain ⟨x, rfl, cr⟩ := hFS.out k (.int .i64 r) (by simp [intL, hr])
      have cr := m1.cell cr (fun h => h)
      have cr := hm.cell cr (by show ¬ (x.add k).block = B; have h1 := World.block_lt_of_cell? _ _ ‹w.cell? (x.add k) = some (.int .i64 r)›; have := HB.out; omega)
      have HR := Lib.hid hr
      have hlt' : (k : Int) < len := by omega
      have hbadF : ¬ (0 ≤ r ∧ r ≤ (n : Int) - a' ∧ (r = 0 → k = 0 ∧ n ≠ 0)) → ¬ OkR n rs := by
        intro hno hok
        have := hok.1 k r hr
        rw [hpz.out] at this
        exact hno this
      have HBF := Lib.hid hbadF
      clear hr hbadF
      by_cases q1 : r < 0
      · go_wp2_with fail
        go_ret2
        exact ⟨M2.out, .inr ⟨HBF.out (by omega), rfl⟩⟩
      · by_cases q2 : (n : Int) - a' < r
        · go_wp2_with fail
          go_ret2
          exact ⟨M2.out, .inr ⟨HBF.out (by omega), rfl⟩⟩
        · by_cases q3 : r = 0
          · subst q3
            by_cases q4 : k = 0
            · have q4' : decide (0 < k) = false := by simpa using q4
              have q4'' : ¬ (0 : Int) < k := by omega
              by_cases q5 : n = 0
              · have q5' : ((n : Int) == 0) = true := by rw [beq_iff_eq]; omega
                have q5'' : (n == 0) = true := by rw [beq_iff_eq]; exact q5
                have HBF2 := Lib.hid (HBF.out (by omega))
                clear q4 q5
                go_wp2_with fail
                go_ret2
                exact ⟨M2.out, .inr ⟨HBF2.out, rfl⟩⟩
              · have q5' : ((n : Int) == 0) = false := by rw [beq_eq_false_iff_ne]; omega
                have q5'' : (n == 0) = false := by rw [beq_eq_false_iff_ne]; exact q5
                have hnew : ∀ j, j < k + 1 → GoodR n rs j := by
                  intro j hj
                  by_cases e : j = k
                  · subst e; intro r' hr'; rw [HR.out] at hr'; cases hr'; rw [hpz.out]; exact ⟨by omega, by omega, by omega⟩
                  · exact hgd.out j (by omega)
                have hseg : fil (upto (sg false rs) a') a' a' (od k) = upto (sg false rs) a' := fil_self _ _ _
                have hpz' : pz rs (k + 1) = (a' : Int) := by rw [pz_succ rs k 0 HR.out, hpz.out]; simp
                have HN := Lib.hid hnew; have HSEG := Lib.hid hseg; have HPZ := Lib.hid hpz'
                have hod := odB3 k
                have hod2 := odB4 k
                have hod5 := odB5 k (by omega)
                clear hnew hseg hpz' q4 q5
                go_wp2_with fail
                refine (bitsFill (B + 1) B n _ a' a' _ _ hset.out (by omega) (by omega)).mono ?_; rintro e w2 ⟨rfl, s2, m2⟩
                rw [HSEG.out] at s2
                have S2 := Lib.hid s2
                have m3 := hm.trans m2
                clear s2 m2 hm hod hod2 hod5
                go_wp2_with fail
                exact ⟨⟨k + 1, a', by go_num, by first | rfl | go_num, by omega, by omega, HPZ, HN, S2, m3⟩, by simp [intOf]; omega⟩
            · have q4' : (0 : Int) < k := by omega
              have q4'' : decide (0 < k) = true := by simpa using Nat.pos_of_ne_zero q4
              have HBF2 := Lib.hid (HBF.out (fun h => q4 (h.2.2 rfl).1))
              go_wp2_with fail
              go_ret2
              exact ⟨M2.out, .inr ⟨HBF2.out, rfl⟩⟩
          · have q3' : (r == 0) = false := by rw [beq_eq_false_iff_ne]; exact q3
            obtain ⟨ρ, rfl⟩ : ∃ ρ : Nat, r = ρ := ⟨r.toNat, by omega⟩
            have hnew : ∀ j, j < k + 1 → GoodR n rs j := by
              intro j hj
              by_cases e : j = k
              · subst e; intro r' hr'; rw [HR.out] at hr'; cases hr'; rw [hpz.out]; exact ⟨by omega, by omega, by omega⟩
              · exact hgd.out j (by omega)
            have hseg := seg_upto hgd.out HR.out hpz.out
            have hpz' : pz rs (k + 1) = ((a' + ρ : Nat) : Int) := by rw [pz_succ rs k ρ HR.out, hpz.out]; simp
            have HN := Lib.hid hnew; have HSEG := Lib.hid hseg; have HPZ := Lib.hid hpz'
            have hod := odB3 k
            have hod2 := odB4 k
            have hod5 := odB5 k (by omega)
            clear hnew hseg hpz'
            go_wp2_with fail
            refine (bitsFill (B + 1) B n _ a' (a' + ρ) _ _ hset.out (by omega) (by omega)).mono ?_; rintro e w2 ⟨rfl, s2, m2⟩
            rw [HSEG.out] at s2
            have S2 := Lib.hid s2
            have m3 := hm.trans m2
            clear s2 m2 hm hod hod2 hod5
            go_wp2_with fail
            exact ⟨⟨k + 1, (a' + ρ), by go_num, by first | rfl | go_num, by omega, by omega, HPZ, HN, S2, m3⟩, by simp [intOf]; omega⟩
    · obtain rfl : k = len := by omega
      by_cases hend : a' = n
      · subst hend
        have hok : OkR a' rs := by
          refine ⟨fun j => ?_, by rw [← HL.out]; exact hpz.out⟩
          by_cases hj : j < k
          · exact hgd.out j hj
          · intro r hr; rw [List.getElem?_eq_none (by rw [← HL.out]; omega)] at hr; cases hr
        have hfin := hset.out
        rw [upto_all hok] at hfin
        have HFIN := Lib.hid hfin
        have HOK := Lib.hid hok
        clear hfin hok
        go_wp2_with fail
        go_ret2
        exact ⟨M2.out, .inl ⟨HOK.out, _, _, rfl, HFIN.out, by have := HB.out; omega, by have := HB.out; omega⟩⟩
      · have hno : ¬ OkR n rs := by
          intro hok
          have h1 := hok.2
          rw [← HL.out, hpz.out] at h1
          omega
        have HNO := Lib.hid hno
        have hend1 : ((a' : Int) == n) = false := by rw [beq_eq_false_iff_ne]; omega
        have hend2 : (a' == n) = false := by rw [beq_eq_false_iff_ne]; exact hend
        clear hno
        go_wp2_with fail
        go_ret2
        exact ⟨M2.out, .inr ⟨HNO.out, rfl⟩⟩

/-- What OfRuns hands back. -/
def refOfRunsP (n : Nat) (rs : List Int) (w : World) (e : Ending) (w' : World) : Prop :=
  Mod (fun _ => False) w w' ∧ ((OkR n rs ∧ ∃ b g : Nat, e = .returned (.tuple #[.pointer (some ⟨b, 0, none⟩), .int .i64 0]) ∧ RSet w' b g n (sg false rs) ∧ w.heap.size ≤ b ∧ w.heap.size ≤ g) ∨ (¬ OkR n rs ∧ e = .returned (.tuple #[.pointer none, .int .i64 2])))
set_option maxRecDepth 100000 in
set_option maxHeartbeats 2000000 in
theorem refOfRuns (n : Nat) (hn : n ≤ 65536) (sv : Value) (rs : List Int) (w : World) (hs : Sl w sv 1 rs.length (intL rs)) (hlen : (rs.length : Int) ≤ 9223372036854775807) :
    Calls Tryd.prog 24 #[.int .i64 n, sv] w (refOfRunsP n rs w) := by
  obtain ⟨a, c, rfl, fs⟩ := hs.form
  obtain ⟨len, hl⟩ : ∃ len, len = rs.length := ⟨_, rfl⟩
  rw [← hl] at hlen ⊢
  have hFS := Lib.hid fs
  have HL := Lib.hid hl
  clear hs fs hl
  go_enter Tryd.func24, Tryd.ntmps24
  go_wp2_with fail
  refine (refNew n _ hn).mono ?_; rintro e w1 ⟨rfl, s1, m1⟩
  obtain ⟨B, hB⟩ : ∃ B, B = w.heap.size := ⟨_, rfl⟩
  rw [← hB] at s1 ⊢
  have e0 : (fun _ => false) = upto (sg false rs) 0 := by funext x; simp [upto]
  rw [e0] at s1
  have S1 := Lib.hid s1
  have HB := Lib.hid hB
  clear s1 e0 hB
  go_wp2_with fail
  go_loopw [8, 9] (fun u v wr => ∃ k a' : Nat, u = .int .i64 a' ∧ v = .int .i64 k ∧ k ≤ len ∧ a' ≤ n ∧ Hid (pz rs k = a') ∧ Hid (∀ j, j < k → GoodR n rs j) ∧ Hid (RSet wr (B + 1) B n (upto (sg false rs) a')) ∧ Mod (· = B) w1 wr) (fun _ v _ => len - (intOf v).toNat)
  case atStart => exact ⟨0, 0, rfl, rfl, Nat.zero_le _, Nat.zero_le _, by show pz rs 0 = 0; cases rs <;> rfl, fun j hj => by omega, S1, Mod.refl _ _⟩
  case round =>
    obtain ⟨k, a', rfl, rfl, hk, han, hpz, hgd, hset, hm⟩ := hrel
    have M2 := Lib.hid (m1.new hm (by intro i hi; have := HB.out; omega))
    by_cases hlt : k < len
    · obtain ⟨r, hr⟩ : ∃ r, rs[k]? = some r := ⟨_, List.getElem?_eq_getElem (by rw [← HL.out]; exact hlt)⟩
      obtain ⟨x, rfl, cr⟩ := hFS.out k (.int .i64 r) (by simp [intL, hr])
      have cr := m1.cell cr (fun h => h)
      have cr := hm.cell cr (by show ¬ (x.add k).block = B; have h1 := World.block_lt_of_cell? _ _ ‹w.cell? (x.add k) = some (.int .i64 r)›; have := HB.out; omega)
      have HR := Lib.hid hr
      have hlt' : (k : Int) < len := by omega
      have hbadF : ¬ (0 ≤ r ∧ r ≤ (n : Int) - a' ∧ (r = 0 → k = 0 ∧ n ≠ 0)) → ¬ OkR n rs := by
        intro hno hok
        have := hok.1 k r hr
        rw [hpz.out] at this
        exact hno this
      have HBF := Lib.hid hbadF
      clear hr hbadF
      by_cases q1 : r < 0
      · go_wp2_with fail
        go_ret2
        exact ⟨M2.out, .inr ⟨HBF.out (by omega), rfl⟩⟩
      · by_cases q2 : (n : Int) - a' < r
        · go_wp2_with fail
          go_ret2
          exact ⟨M2.out, .inr ⟨HBF.out (by omega), rfl⟩⟩
        · by_cases q3 : r = 0
          · subst q3
            by_cases q4 : k = 0
            · have q4' : decide (0 < k) = false := by simpa using q4
              have q4'' : ¬ (0 : Int) < k := by omega
              by_cases q5 : n = 0
              · have q5' : ((n : Int) == 0) = true := by rw [beq_iff_eq]; omega
                have q5'' : (n == 0) = true := by rw [beq_iff_eq]; exact q5
                have HBF2 := Lib.hid (HBF.out (by omega))
                clear q4 q5
                go_wp2_with fail
                go_ret2
                exact ⟨M2.out, .inr ⟨HBF2.out, rfl⟩⟩
              · have q5' : ((n : Int) == 0) = false := by rw [beq_eq_false_iff_ne]; omega
                have q5'' : (n == 0) = false := by rw [beq_eq_false_iff_ne]; exact q5
                have hnew : ∀ j, j < k + 1 → GoodR n rs j := by
                  intro j hj
                  by_cases e : j = k
                  · subst e; intro r' hr'; rw [HR.out] at hr'; cases hr'; rw [hpz.out]; exact ⟨by omega, by omega, by omega⟩
                  · exact hgd.out j (by omega)
                have hseg : fil (upto (sg false rs) a') a' a' (od k) = upto (sg false rs) a' := fil_self _ _ _
                have hpz' : pz rs (k + 1) = (a' : Int) := by rw [pz_succ rs k 0 HR.out, hpz.out]; simp
                have HN := Lib.hid hnew; have HSEG := Lib.hid hseg; have HPZ := Lib.hid hpz'
                have hod := odB3 k
                have hod2 := odB4 k
                clear hnew hseg hpz' q4 q5
                go_wp2_with fail
                refine (refFill (B + 1) B n _ a' a' _ _ hset.out (by omega) (by omega)).mono ?_; rintro e w2 ⟨rfl, s2, m2⟩
                rw [HSEG.out] at s2
                have S2 := Lib.hid s2
                have m3 := hm.trans m2
                have cr := m2.cell cr (by show ¬ (x.add k).block = B; have h1 := World.block_lt_of_cell? _ _ ‹w.cell? (x.add k) = some (.int .i64 0)›; have := HB.out; omega)
                clear s2 m2 hm hod hod2
                go_wp2_with fail
                exact ⟨⟨k + 1, a', by go_num, by first | rfl | go_num, by omega, by omega, HPZ, HN, S2, m3⟩, by simp [intOf]; omega⟩
            · have q4' : (0 : Int) < k := by omega
              have q4'' : decide (0 < k) = true := by simpa using Nat.pos_of_ne_zero q4
              have HBF2 := Lib.hid (HBF.out (fun h => q4 (h.2.2 rfl).1))
              go_wp2_with fail
              go_ret2
              exact ⟨M2.out, .inr ⟨HBF2.out, rfl⟩⟩
          · have q3' : (r == 0) = false := by rw [beq_eq_false_iff_ne]; exact q3
            obtain ⟨ρ, rfl⟩ : ∃ ρ : Nat, r = ρ := ⟨r.toNat, by omega⟩
            have hnew : ∀ j, j < k + 1 → GoodR n rs j := by
              intro j hj
              by_cases e : j = k
              · subst e; intro r' hr'; rw [HR.out] at hr'; cases hr'; rw [hpz.out]; exact ⟨by omega, by omega, by omega⟩
              · exact hgd.out j (by omega)
            have hseg := seg_upto hgd.out HR.out hpz.out
            have hpz' : pz rs (k + 1) = ((a' + ρ : Nat) : Int) := by rw [pz_succ rs k ρ HR.out, hpz.out]; simp
            have HN := Lib.hid hnew; have HSEG := Lib.hid hseg; have HPZ := Lib.hid hpz'
            have hod := odB3 k
            have hod2 := odB4 k
            clear hnew hseg hpz'
            go_wp2_with fail
            refine (refFill (B + 1) B n _ a' (a' + ρ) _ _ hset.out (by omega) (by omega)).mono ?_; rintro e w2 ⟨rfl, s2, m2⟩
            rw [HSEG.out] at s2
            have S2 := Lib.hid s2
            have m3 := hm.trans m2
            have cr := m2.cell cr (by show ¬ (x.add k).block = B; have h1 := World.block_lt_of_cell? _ _ ‹w.cell? (x.add k) = some (.int .i64 (ρ : Int))›; have := HB.out; omega)
            clear s2 m2 hm hod hod2
            go_wp2_with fail
            exact ⟨⟨k + 1, (a' + ρ), by go_num, by first | rfl | go_num, by omega, by omega, HPZ, HN, S2, m3⟩, by simp [intOf]; omega⟩
    · obtain rfl : k = len := by omega
      have hsmr := runs_len (upto (sg false rs) a') n
      by_cases hend : a' = n
      · subst hend
        have hok : OkR a' rs := by
          refine ⟨fun j => ?_, by rw [← HL.out]; exact hpz.out⟩
          by_cases hj : j < k
          · exact hgd.out j hj
          · intro r hr; rw [List.getElem?_eq_none (by rw [← HL.out]; omega)] at hr; cases hr
        have hfin := hset.out
        rw [upto_all hok] at hfin
        have HFIN := Lib.hid hfin
        have HOK := Lib.hid hok
        clear hfin hok
        go_wp2_with fail
        refine (refRuns _ _ _ _ _ HFIN.out).mono ?_; rintro e w4 ⟨v4, rfl, o4, m4⟩
        rw [runsOf_ok HOK.out, ← HL.out] at o4
        obtain ⟨a4, c4, rfl, _⟩ := o4.sl.form
        have HF4 := Lib.hid (HFIN.out.mod m4 (fun h => h) (fun h => h))
        clear o4
        go_wp2_with fail
        go_ret2
        exact ⟨M2.out.trans m4, .inl ⟨HOK.out, _, _, rfl, HF4.out, by have := HB.out; omega, by have := HB.out; omega⟩⟩
      · have hno : ¬ OkR n rs := by
          intro hok
          have h1 := hok.2
          rw [← HL.out, hpz.out] at h1
          omega
        have HNO := Lib.hid hno
        have hend1 : ((a' : Int) == n) = false := by rw [beq_eq_false_iff_ne]; omega
        have hend2 : (a' == n) = false := by rw [beq_eq_false_iff_ne]; exact hend
        clear hno
        go_wp2_with fail
        refine (refRuns _ _ _ _ _ hset.out).mono ?_; rintro e w4 ⟨v4, rfl, o4, m4⟩
        obtain ⟨a4, c4, rfl, _⟩ := o4.sl.form
        clear o4
        go_wp2_with fail
        go_ret2
        exact ⟨M2.out.trans m4, .inr ⟨HNO.out, rfl⟩⟩
end Go.Proofs.YtdfdkacnejichaaDoor
