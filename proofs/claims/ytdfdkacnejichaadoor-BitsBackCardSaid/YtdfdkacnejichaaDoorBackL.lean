/- The walk of the statement BitsBack: the call returns true and turns nothing that was there; no condition but the library's table. -/
import Derived.Test.YtdfdkacnejichaaDoorOfRuns
import Derived.Test.YtdfdkacnejichaaDoorBitsW
namespace Go.Proofs.YtdfdkacnejichaaDoor
open Go Go.RowKit Go.IntWalk

theorem ofB_bytesOf (f : Nat → Bool) (n : Nat) (h : ∀ i, n ≤ i → f i = false) : ofB (bytesOf f n) ((n + 7) / 8) = f := by
  funext x
  unfold ofB
  by_cases hx : x < 8 * ((n + 7) / 8)
  · have h1 : (bytesOf f n).getD (x / 8) 0 = byt f (x / 8) := by
      unfold bytesOf
      rw [List.getD_eq_getElem?_getD, List.getElem?_map, List.getElem?_range (by omega)]
      rfl
    rw [h1, testBit_byt, show 8 * (x / 8) + x % 8 = x by omega]
    have : x % 8 < 8 := by omega
    simp [hx, this]
  · rw [h x (by omega)]
    simp [hx]

theorem pz_mono {rs : List Int} : ∀ k j, j ≤ k → NonNeg rs k → k ≤ rs.length → pz rs j ≤ pz rs k
  | 0, j, h, _, _ => by have : j = 0 := by omega
                        rw [this]; exact Int.le_refl _
  | k + 1, j, h, hn, hl => by
    by_cases e : j = k + 1
    · rw [e]; exact Int.le_refl _
    · have h1 := pz_mono k j (by omega) (fun i r hi hr => hn i r (by omega) hr) (by omega)
      obtain ⟨r, hr⟩ : ∃ r, rs[k]? = some r := ⟨_, List.getElem?_eq_getElem (by omega)⟩
      have h2 := hn k r (by omega) hr
      rw [pz_succ rs k r hr]
      omega
/-- The runs of places tell these places. -/
theorem rl_back (f : Nat → Bool) (n : Nat) : ∀ m k one, k ≤ n → ms f n k one < m →
    pz (rl f n m k one) (rl f n m k one).length = (n : Int) - k ∧ (∀ (j : Nat) (r : Int), (rl f n m k one)[j]? = some r → 0 ≤ r ∧ (r = 0 → j = 0 ∧ k < n ∧ f k ≠ one)) ∧ ∀ x, k ≤ x → x < n → sg one (rl f n m k one) (x - k) = f x
  | 0, k, one, _, h => by omega
  | m + 1, k, one, hk, hm => by
    by_cases hlt : k < n
    · obtain ⟨e1, e2, e3, e4⟩ := en_spec f n k one hk
      have hd := ms_dec f n k one hlt
      obtain ⟨i1, i2, i3⟩ := rl_back f n m (en f n k one) (!one) e2 (by omega)
      rw [rl_step f n m k one hlt]
      refine ⟨?_, ?_, ?_⟩
      · show ((en f n k one : Int) - k) + pz (rl f n m (en f n k one) (!one)) _ = _
        rw [i1]
        omega
      · intro j r hr
        cases j with
        | zero =>
          simp at hr
          refine ⟨by omega, fun r0 => ⟨rfl, hlt, fun hf => ?_⟩⟩
          have : en f n k one = k := by omega
          have := e4 (by omega)
          rw [‹en f n k one = k›, hf] at this
          cases one <;> simp at this
        | succ j =>
          have hr' : (rl f n m (en f n k one) (!one))[j]? = some r := by simpa using hr
          obtain ⟨g1, g2⟩ := i2 j r hr'
          refine ⟨g1, fun r0 => ?_⟩
          obtain ⟨_, q2, q3⟩ := g2 r0
          exact absurd (e4 q2) q3
      · intro x h1 h2
        show (if x - k < ((en f n k one : Int) - k).toNat then one else sg (!one) _ (x - k - ((en f n k one : Int) - k).toNat)) = _
        by_cases hx : x < en f n k one
        · rw [if_pos (by omega), e3 x h1 hx]
        · rw [if_neg (by omega), show x - k - ((en f n k one : Int) - k).toNat = x - en f n k one by omega]
          exact i3 x (by omega) h2
    · rw [rl_end f n _ k one hlt]
      refine ⟨?_, fun j r hr => by simp at hr, fun x h1 h2 => by omega⟩
      show (0 : Int) = _
      omega
theorem runs_back (f : Nat → Bool) (n : Nat) (hout : ∀ i, n ≤ i → f i = false) : OkR n (runsOf f n) ∧ sg false (runsOf f n) = f := by
  obtain ⟨h1, h2, h3⟩ := rl_back f n (2 * n + 2) 0 false (Nat.zero_le _) (ms_le f n)
  change pz (runsOf f n) (runsOf f n).length = _ at h1
  change ∀ (j : Nat) (r : Int), (runsOf f n)[j]? = some r → _ at h2
  change ∀ x, 0 ≤ x → x < n → sg false (runsOf f n) (x - 0) = f x at h3
  have hn : NonNeg (runsOf f n) (runsOf f n).length := fun j r _ hr => (h2 j r hr).1
  refine ⟨⟨fun k r hr => ?_, by omega⟩, ?_⟩
  · obtain ⟨g1, g2⟩ := h2 k r hr
    have hk : k < (runsOf f n).length := (List.getElem?_eq_some_iff.1 hr).1
    have h4 := pz_mono (rs := runsOf f n) _ (k + 1) hk hn (Nat.le_refl _)
    rw [pz_succ _ k r hr] at h4
    refine ⟨g1, by omega, fun r0 => ?_⟩
    obtain ⟨a, b, _⟩ := g2 r0
    exact ⟨a, by omega⟩
  · funext x
    by_cases hx : x < n
    · exact h3 x (Nat.zero_le _) hx
    · rw [hout x (by omega)]
      exact sg_out _ _ _ hn (by omega)

set_option maxRecDepth 100000 in
set_option maxHeartbeats 2000000 in
theorem bitsBack_walk (n : Int) (a1 : Option Addr) (len1 cap1 : Nat) (l : List St) (w : World) (hT : TabW w) (_ : (Lit.int .i64 n).wf = true) (hl : IsSteps w a1 len1 l) :
    Calls Tryd.prog 10 #[.int .i64 n, .slice a1 len1 cap1] w fun e w' => e = .returned (.bool true) ∧ Below w.heap.size w w' := by
  refine Calls.mono (R := fun e w' => e = .returned (.bool true) ∧ Mod (fun _ => False) w w') ?_ (fun e w' ⟨h1, h2⟩ => ⟨h1, h2.below (Nat.le_refl _) (fun _ h => h.elim)⟩)
  by_cases hbad : n < 0 ∨ 700 < n
  · have HB := Lib.hid hbad
    clear hbad hl
    go_enter Tryd.func10, Tryd.ntmps10
    go_wp2_with fail
    refine (awake02 _).mono ?_; rintro e w1 ⟨rfl, m1⟩
    go_wp2_with fail
    refine (madeBad _ _ _ HB.out).mono ?_; rintro e w' ⟨rfl, rfl⟩
    go_wp2_with fail
    go_ret
    exact ⟨rfl, m1⟩
  · obtain ⟨n, rfl⟩ : ∃ k : Nat, n = k := ⟨n.toNat, by omega⟩
    have hn : n ≤ 700 := by omega
    have hn6 : n ≤ 65536 := by omega
    have HL := Lib.hid hl
    have HT := Lib.hid hT
    clear hbad hl hT
    go_enter Tryd.func10, Tryd.ntmps10
    go_wp2_with fail
    refine (awake02 _).mono ?_; rintro e w1 ⟨rfl, m1⟩
    go_wp2_with fail
    refine (madeOk n a1 len1 cap1 l _ hn (HL.out.new m1) (HT.out.mod m1 (fun h => h))).mono ?_; rintro e w2 ⟨b, g, b', g', rfl, tw, m2, _, _, _, _⟩
    have S2 := Lib.hid tw.s
    have HT2 := Lib.hid ((HT.out.mod m1 (fun h => h)).mod m2 (fun h => h))
    have m12 := m1.trans m2
    obtain ⟨f, hf⟩ : ∃ f, f = stFs n (l.take 60) := ⟨_, rfl⟩
    rw [← hf] at S2
    clear tw m1 m2 hf
    go_wp2_with fail
    refine (bitsBytes _ _ _ _ _ S2.out.toBRaw).mono ?_; rintro e w3 ⟨rfl, y3, m3, _⟩
    have S3 := Lib.hid (S2.out.mod m3 (fun h => h) (fun h => h))
    have HT3 := Lib.hid (HT2.out.mod m3 (fun h => h))
    have m13 := m12.trans m3
    obtain ⟨q, hq⟩ : ∃ q, q = (n + 7) / 8 := ⟨_, rfl⟩
    rw [← hq] at y3 ⊢
    have HQ := Lib.hid hq
    have Y3 := Lib.hid y3
    clear y3 m3 m12 hq
    go_wp2_with fail
    refine (bitsLoad n (bytesOf f n) _ _ _ _ hn6 HQ.out Y3.out (bytesOf_lt f n)).mono ?_; rintro e w4 ⟨m4, q4⟩
    have hofB : ofB (bytesOf f n) q = f := by rw [HQ.out]; exact ofB_bytesOf f n S3.out.out
    rw [hofB] at q4
    rcases q4 with ⟨rfl, x4⟩ | ⟨_, x, hx1, hx2⟩
    · have S4 := Lib.hid (S3.out.mod m4 (fun h => h) (fun h => h))
      have HT4 := Lib.hid (HT3.out.mod m4 (fun h => h))
      have m14 := m13.trans m4
      have X4 := Lib.hid x4
      generalize w3.heap.size + 1 = bx at X4 ⊢
      generalize w3.heap.size = gx at X4
      clear x4 hofB m4 m13
      go_wp2_with fail
      refine (bitsRuns _ _ _ _ _ S4.out HT4.out).mono ?_; rintro e w5 ⟨v5, rfl, o5, m5⟩
      have S5 := Lib.hid (S4.out.mod m5 (fun h => h) (fun h => h))
      have X5 := Lib.hid (X4.out.mod m5 (fun h => h) (fun h => h))
      have m15 := m14.trans m5
      have hlr := runs_len f n
      have O5 := Lib.hid o5.sl
      clear o5 m5 m14
      go_wp2_with fail
      refine (bitsOfRuns n hn6 v5 (runsOf f n) _ O5.out (by omega)).mono ?_; rintro e w6 ⟨m6, q6⟩
      obtain ⟨hok, hsg⟩ := runs_back f n S5.out.out
      rcases q6 with ⟨_, by', gy, rfl, s6, _, _⟩ | ⟨hno, _⟩
      · rw [hsg] at s6
        have S6 := Lib.hid (S5.out.mod m6 (fun h => h) (fun h => h))
        have X6 := Lib.hid (X5.out.mod m6 (fun h => h) (fun h => h))
        have Y6 := Lib.hid s6
        have m16 := m15.trans m6
        clear s6 m6 m15 hok hsg hlr
        go_wp2_with fail
        refine wp_region2 [(1, 4), (2, 3), (4, 4), (5, 3), (9, 4), (10, 3), (12, 4), (13, 3)] [] (by kernel_rfl) (by kernel_rfl) ?_
        repeat (first | (refine reg_anyT (by rfl) (fun K hK => ?_); go_simp; refine hK _ _ ?_; clear hK K) | (refine reg_read (by rfl) (fun K hK => ?_); go_simp; refine hK _ _ ?_; clear hK K))
        refine reg_new (by rfl) (fun rn K hK => ?_); go_simp
        refine (bitsBytes _ _ _ _ _ (X6.out.drewN rn).toBRaw).mono ?_; rintro e v7 ⟨rfl, z1, z2, _⟩
        refine hK _ _ ⟨z2.ex, ?_⟩; clear hK K
        repeat (first | (refine reg_anyT (by rfl) (fun K hK => ?_); go_simp; refine hK _ _ ?_; clear hK K) | (refine reg_read (by rfl) (fun K hK => ?_); go_simp; refine hK _ _ ?_; clear hK K))
        have S7 := Lib.hid (S6.out.mod z2.undrew (fun h => h) (fun h => h))
        have Y7 := Lib.hid (Y6.out.mod z2.undrew (fun h => h) (fun h => h))
        have m17 := m16.trans z2.undrew
        refine reg_hold_v (by rfl) (by rfl) (.string (strOf (bytesOf f n))) (fun w' hw' => q_conv _ _ _ rfl (strB (z1.ex hw'))) ?_
        repeat (first | (refine reg_anyT (by rfl) (fun K hK => ?_); go_simp; refine hK _ _ ?_; clear hK K) | (refine reg_read (by rfl) (fun K hK => ?_); go_simp; refine hK _ _ ?_; clear hK K))
        clear z1 z2
        refine reg_new (by rfl) (fun rn K hK => ?_); go_simp
        refine (bitsBytes _ _ _ _ _ (S7.out.drewN rn).toBRaw).mono ?_; rintro e v8 ⟨rfl, z1, z2, _⟩
        refine hK _ _ ⟨z2.ex, ?_⟩; clear hK K
        repeat (first | (refine reg_anyT (by rfl) (fun K hK => ?_); go_simp; refine hK _ _ ?_; clear hK K) | (refine reg_read (by rfl) (fun K hK => ?_); go_simp; refine hK _ _ ?_; clear hK K))
        have S8 := Lib.hid (S7.out.mod z2.undrew (fun h => h) (fun h => h))
        have Y8 := Lib.hid (Y7.out.mod z2.undrew (fun h => h) (fun h => h))
        have m18 := m17.trans z2.undrew
        refine reg_hold_v (by rfl) (by rfl) (.string (strOf (bytesOf f n))) (fun w' hw' => q_conv _ _ _ rfl (strB (z1.ex hw'))) ?_
        repeat (first | (refine reg_anyT (by rfl) (fun K hK => ?_); go_simp; refine hK _ _ ?_; clear hK K) | (refine reg_read (by rfl) (fun K hK => ?_); go_simp; refine hK _ _ ?_; clear hK K))
        clear z1 z2
        refine reg_new (by rfl) (fun rn K hK => ?_); go_simp
        refine (bitsBytes _ _ _ _ _ (Y8.out.drewN rn).toBRaw).mono ?_; rintro e v9 ⟨rfl, z1, z2, _⟩
        refine hK _ _ ⟨z2.ex, ?_⟩; clear hK K
        repeat (first | (refine reg_anyT (by rfl) (fun K hK => ?_); go_simp; refine hK _ _ ?_; clear hK K) | (refine reg_read (by rfl) (fun K hK => ?_); go_simp; refine hK _ _ ?_; clear hK K))
        have S9 := Lib.hid (S8.out.mod z2.undrew (fun h => h) (fun h => h))
        have m19 := m18.trans z2.undrew
        refine reg_hold_v (by rfl) (by rfl) (.string (strOf (bytesOf f n))) (fun w' hw' => q_conv _ _ _ rfl (strB (z1.ex hw'))) ?_
        repeat (first | (refine reg_anyT (by rfl) (fun K hK => ?_); go_simp; refine hK _ _ ?_; clear hK K) | (refine reg_read (by rfl) (fun K hK => ?_); go_simp; refine hK _ _ ?_; clear hK K))
        clear z1 z2
        refine reg_new (by rfl) (fun rn K hK => ?_); go_simp
        refine (bitsBytes _ _ _ _ _ (S9.out.drewN rn).toBRaw).mono ?_; rintro e v10 ⟨rfl, z1, z2, _⟩
        refine hK _ _ ⟨z2.ex, ?_⟩; clear hK K
        repeat (first | (refine reg_anyT (by rfl) (fun K hK => ?_); go_simp; refine hK _ _ ?_; clear hK K) | (refine reg_read (by rfl) (fun K hK => ?_); go_simp; refine hK _ _ ?_; clear hK K))
        have m20 := m19.trans z2.undrew
        refine reg_hold_v (by rfl) (by rfl) (.string (strOf (bytesOf f n))) (fun w' hw' => q_conv _ _ _ rfl (strB (z1.ex hw'))) ?_
        repeat (first | (refine reg_anyT (by rfl) (fun K hK => ?_); go_simp; refine hK _ _ ?_; clear hK K) | (refine reg_read (by rfl) (fun K hK => ?_); go_simp; refine hK _ _ ?_; clear hK K))
        clear z1 z2
        refine reg_nil (fun nd => ?_)
        go_wp2_with fail
        go_ret
        exact ⟨by simp, m20.drewN _⟩
      · exact absurd hok hno
    · rw [S3.out.out x hx1] at hx2
      cases hx2
end Go.Proofs.YtdfdkacnejichaaDoor
