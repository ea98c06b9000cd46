/- The walk of the statement FlightDrops: the call returns true and turns nothing that was there; no condition. -/
import Derived.Test.YtfdmamaldgpbaaaFwS
namespace Go.Proofs.Ytfdmamaldgpbaaa
open Go Go.RowKit

theorem filter_get {α : Type} (φ : α → Bool) {ks : List α} {i : Nat} {q : α} (h : ks[i]? = some q) (hq : φ q = true) : (ks.filter φ)[((ks.take i).filter φ).length]? = some q := by
  have hi := (List.getElem?_eq_some_iff.1 h).1
  have e : ks = ks.take i ++ q :: ks.drop (i + 1) := by
    have h1 : ks.drop i = q :: ks.drop (i + 1) := by
      rw [List.drop_eq_getElem_cons hi]
      congr 1
      exact (List.getElem?_eq_some_iff.1 h).2
    rw [← h1, List.take_append_drop]
  have h2 : ks.filter φ = (ks.take i).filter φ ++ q :: (ks.drop (i + 1)).filter φ := by
    conv => lhs; rw [e]
    rw [List.filter_append, List.filter_cons, if_pos hq]
  rw [h2, List.getElem?_append_right (Nat.le_refl _), Nat.sub_self]
  rfl
theorem many_gone (ks : List (Int × Rq)) (p : Int) : many (ks.filter fun x => !(x.2.p == p)) p = 0 := by
  unfold many
  rw [List.filter_filter, List.length_eq_zero_iff, List.filter_eq_nil_iff]
  intro a _
  cases h : (a.2.p == p) <;> simp
theorem filter_len_le {α : Type} (φ : α → Bool) (ks : List α) (i : Nat) : ((ks.take i).filter φ).length ≤ (ks.filter φ).length := by
  have h : ks.filter φ = (ks.take i).filter φ ++ (ks.drop i).filter φ := by rw [← List.filter_append, List.take_append_drop]
  rw [h, List.length_append]; omega

set_option maxRecDepth 100000 in
set_option maxHeartbeats 4000000 in
theorem flightDrops_walk (z0 : X3) (a1 : Option Addr) (len1 cap1 : Nat) (l : List St) (q : Int) (w : World) (_ : True) (hl : IsSteps w a1 len1 l) (_ : (Lit.int .i64 q).wf = true) :
    Calls Try.prog 7 #[x3V z0, .slice a1 len1 cap1, .int .i64 q] w fun e w' => e = .returned (.bool true) ∧ Below w.heap.size w w' := by
  refine Calls.mono (R := fun e w' => e = .returned (.bool true) ∧ Mod (fun _ => False) w w') ?_ (fun e w' ⟨h1, h2⟩ => ⟨h1, h2.bel⟩)
  obtain ⟨x, y, z⟩ := z0
  unfold x3V
  dsimp only
  have HL := Lib.hid hl
  have hll : (len1 : Int) ≤ 9223372036854775807 := hl.2.1
  clear hl
  have mx := (Mod.refl (fun _ => False) w).alloc (.cells #[.int .i64 x, .int .i64 y, .int .i64 z] 22)
  have X0 := Lib.hid (Blk.new w #[.int .i64 x, .int .i64 y, .int .i64 z] 22)
  have MX := Lib.hid mx
  obtain ⟨w0, hw0⟩ : ∃ w0, w0 = w.alloc (.cells #[.int .i64 x, .int .i64 y, .int .i64 z] 22) := ⟨_, rfl⟩
  rw [← hw0] at X0 MX
  have HW0 := Lib.hid hw0
  clear mx hw0
  by_cases hok : NewOk x y z
  · have HOK := Lib.hid hok
    clear hok
    go_enter Try.func7, Try.ntmps7
    go_wp2_with fail
    rw [← HW0.out]
    refine (awake16 w0).mono ?_; rintro e w1 ⟨rfl, m1⟩
    have X1 := Lib.hid (X0.out.mod m1 (fun h => h))
    have M1 := Lib.hid (MX.out.trans m1)
    have c0 := X1.out.cell 0; have c1 := X1.out.cell 1; have c2 := X1.out.cell 2
    clear m1
    go_wp2_with fail
    refine (flNew x y z _ HOK.out).mono ?_; rintro e w2 ⟨rfl, t2, m2, s2⟩
    have T2 := Lib.hid t2
    have M2 := Lib.hid m2
    clear t2 m2 c0 c1 c2
    go_wp2_with fail
    refine (refNew 1 1 1 _ (by unfold NewOk; omega)).mono ?_; rintro e w3 ⟨rfl, r3, m3, s3⟩
    obtain ⟨b, hb⟩ : ∃ b, b = w1.heap.size + 1 := ⟨_, rfl⟩
    obtain ⟨M, hM⟩ : ∃ b, b = w1.heap.size := ⟨_, rfl⟩
    obtain ⟨b', hb'⟩ : ∃ b, b = w2.heap.size := ⟨_, rfl⟩
    have hz : w.heap.size ≤ w1.heap.size := M1.out.size
    have h0 := HOK.out
    unfold NewOk at h0
    have two : Both w3 b M x y z [] b' (b' + 1) 1 1 1 [] := by
      refine ⟨⟨?_, ?_, by omega, by omega, by omega, by omega, by omega⟩, Okk.nil _ _ (by omega) (by omega), Okk.nil _ _ (by omega) (by omega), by omega, by omega⟩
      · rw [hb, hM]; exact T2.out.new m3
      · rw [hb']; exact r3
    have TW := Lib.hid two
    have M3 := Lib.hid ((M1.out.trans M2.out).trans m3)
    have HN : Hid (w.heap.size ≤ b ∧ w.heap.size ≤ M ∧ w.heap.size ≤ b') := by show _ ∧ _ ∧ _; omega
    rw [← hb, ← hb']
    clear two r3 m3 hb hM hb' hz T2 M2 M1 s2 s3 h0
    go_wp2_with fail
    go_loopw [12] (fun v wr => ∃ (k : Nat) (ks ks' : List (Int × Rq)), v = .int .i64 k ∧ k ≤ len1 ∧ k ≤ 60 ∧ Hid (Both wr b M x y z ks b' (b' + 1) 1 1 1 ks') ∧ Mod (fun _ => False) w wr) (fun v _ => 60 - (intOf v).toNat)
    case atStart => exact ⟨0, [], [], rfl, Nat.zero_le _, Nat.zero_le _, TW, M3.out⟩
    case round =>
      obtain ⟨k, ks, ks', rfl, hk, hk60, hB, hm⟩ := hrel
      by_cases hlt : k < len1 ∧ k < 60
      · obtain ⟨hlt1, hlt2⟩ := hlt
        obtain ⟨t, ht⟩ : ∃ t, l[k]? = some t := ⟨_, List.getElem?_eq_getElem (by rw [HL.out.1]; exact hlt1)⟩
        obtain ⟨hki, X, rfl, c0, c1, c2, c3⟩ := (HL.out.new hm).2.2 k t ht
        have HKI := Lib.hid hki
        have hlt1' : (k : Int) < len1 := by omega
        have hlt2' : (k : Int) < 60 := by omega
        have HM := Lib.hid hm
        clear ht hki hm
        go_wp2_with fail
        refine (flStep t b M x y z ks b' (b' + 1) 1 1 1 ks' wr hB.out HKI.out).mono ?_; rintro e w4 ⟨⟨R, rfl, hR⟩, b4, m4⟩
        have B4 := Lib.hid b4
        have M4 := Lib.hid (HM.out.new m4 (by intro i hi; have := HN.out; rcases hi with rfl | rfl <;> omega))
        clear hR b4 m4
        go_wp2_with fail
        exact ⟨⟨k + 1, _, _, by go_num, by omega, by omega, B4, M4.out⟩, by simp [intOf]; omega⟩
      · have hend : (k : Int) < len1 → ¬ (k : Int) < 60 := by omega
        have HM := Lib.hid hm
        have n4 := hB.out.len
        clear hm hlt
        by_cases h6 : (k : Int) < len1
        · have h7 : ¬ (k : Int) < 60 := hend h6
          clear hend
          go_wp2_with fail
          refine (flAll b M x y z ks wr hB.out.two.t (by omega) hB.out.ok.i64).mono ?_; rintro e w5 ⟨v5, rfl, o5, m5⟩
          have B5 := Lib.hid (hB.out.new m5)
          have M5 := Lib.hid (HM.out.trans m5)
          have O5 := Lib.hid o5
          have hMl : M < wr.heap.size := hB.out.two.t.lt.2
          have hw5 : wr.heap.size ≤ w5.heap.size := m5.size
          clear o5 m5
          go_wp2_with fail
          obtain ⟨φ, hφ⟩ : ∃ φ : Int × Rq → Bool, φ = fun x => x.2.p == q := ⟨_, rfl⟩
          have HPHI := Lib.hid hφ
          refine (flDrop q b M x y z ks w5 B5.out.two.t (by omega) B5.out.ok.i64).mono ?_
          rw [show (ks.filter fun x => x.2.p == q) = ks.filter φ by rw [hφ], show (ks.filter fun x => !(x.2.p == q)) = ks.filter (fun x => !φ x) by rw [hφ]]
          rintro e w6 ⟨⟨v6, rfl, o6⟩, t6, m6⟩
          have T6 := Lib.hid t6
          have M6 := Lib.hid (M5.out.new m6 (by intro i hi; have := HN.out; omega))
          have O56 := Lib.hid (owns_mod O5.out m6 (fun i hi e => by omega))
          have O6 := Lib.hid o6
          have GONE := Lib.hid (show many (ks.filter fun x => !φ x) q = 0 by rw [hφ]; exact many_gone ks q)
          have OK6 := Lib.hid (B5.out.ok.filter (fun x => !φ x))
          have n1 : (ks.filter φ).length ≤ 256 := by have := List.length_filter_le φ ks; omega
          have n2 : (ks.filter fun x => !φ x).length ≤ 256 := by have := List.length_filter_le (fun x => !φ x) ks; omega
          clear hφ o6 t6 m6 O5
          go_wp2_with fail
          refine (flAll b M x y z _ w6 T6.out (by omega) OK6.out.i64).mono ?_; rintro e w7 ⟨v7, rfl, o7, m7⟩
          have T7 := Lib.hid (T6.out.new m7)
          have M7 := Lib.hid (M6.out.trans m7)
          obtain ⟨a5, k5, rfl, _, e5, _⟩ := (owns_new O56.out m7).els
          obtain ⟨a6, k6, rfl, _, e6, _⟩ := (owns_new O6.out m7).els
          obtain ⟨a7, k7, rfl, _, e7, _⟩ := o7.els
          have E5 := Lib.hid e5; have E6 := Lib.hid e6; have E7 := Lib.hid e7
          clear o7 m7 e5 e6 e7 O56 O6 M6 T6
          go_wp2_with fail
          go_loopw [16, 17, 18] (fun u v i ws => ∃ n : Nat, i = .int .i64 n ∧ n ≤ ks.length ∧ u = .int .i64 (((ks.take n).filter φ).length : Nat) ∧ v = .int .i64 (((ks.take n).filter fun x => !φ x).length : Nat) ∧ Mod (fun _ => False) w7 ws) (fun _ _ i _ => ks.length - (intOf i).toNat)
          case atStart => exact ⟨0, rfl, Nat.zero_le _, rfl, rfl, Mod.refl _ _⟩
          case round =>
            obtain ⟨n, rfl, hn, rfl, rfl, hmz⟩ := hrel
            obtain ⟨wz, hwz⟩ : ∃ wz : World, wz = wr := ⟨_, rfl⟩
            rw [← hwz] at hmz ⊢
            clear hwz
            by_cases hlz : (n : Int) < ks.length
            · obtain ⟨⟨k', r⟩, hkr⟩ : ∃ q, ks[n]? = some q := ⟨_, List.getElem?_eq_getElem (by omega)⟩
              obtain ⟨Y, rfl, p0, p1, p2⟩ := rqEl (E5.out.new hmz) (Nat.le_refl _) hkr
              have F1 := Lib.hid (filter_take φ ks n (k', r) hkr)
              have F2 := Lib.hid (filter_take (fun x => !φ x) ks n (k', r) hkr)
              have hphi : φ (k', r) = (r.p == q) := by rw [HPHI.out]
              have hmeas : ks.length - (n + 1) < ks.length - n := by omega
              by_cases eq : r.p = q
              · have e' : (r.p == q) = true := by simpa using eq
                have FT := Lib.hid (hphi.trans e')
                have hg := filter_get φ hkr FT.out
                obtain ⟨c, hc⟩ : ∃ c, c = ((ks.take n).filter φ).length := ⟨_, rfl⟩
                rw [← hc] at hg ⊢
                obtain ⟨Z, rfl, s0, s1, s2⟩ := rqEl (E6.out.new hmz) (Nat.le_refl _) hg
                have hcl2 : c < (ks.filter φ).length := (List.getElem?_eq_some_iff.1 hg).1
                have hcl : decide ((ks.filter φ).length ≤ c) = false := by have := (List.getElem?_eq_some_iff.1 hg).1; simp; omega
                have HC := Lib.hid hc
                have d1 : Hid (((ks.take (n + 1)).filter φ).length = c + 1) := by show _ = _; rw [F1.out, FT.out, if_pos rfl, List.length_append, HC.out]; rfl
                have d2 : Hid (((ks.take (n + 1)).filter fun x => !φ x).length = ((ks.take n).filter fun x => !φ x).length) := by show _ = _; rw [F2.out, FT.out]; simp
                generalize ((ks.take n).filter fun x => !φ x).length = c2 at d2 ⊢
                clear hkr hphi eq hg hc
                go_wp2_with fail
                refine wp_region2 [] [] (by kernel_rfl) (by kernel_rfl) ?_
                repeat (first | (refine reg_anyT (by rfl) (fun K hK => ?_); go_simp; refine hK _ _ ?_; clear hK K) | (refine reg_read (by rfl) (fun K hK => ?_); go_simp; refine hK _ _ ?_; clear hK K))
                refine reg_nil (fun nd => ?_)
                go_wp2_with fail
                exact ⟨⟨n + 1, by go_num, by omega, by rw [d1.out]; go_num, by rw [d2.out], hmz.drewN _⟩, by simp [intOf]; omega⟩
              · have e' : (r.p == q) = false := by simpa using eq
                have FT := Lib.hid (hphi.trans e')
                have hg := filter_get (fun x => !φ x) hkr (by show (!φ (k', r)) = true; rw [FT.out]; rfl)
                obtain ⟨c, hc⟩ : ∃ c, c = ((ks.take n).filter fun x => !φ x).length := ⟨_, rfl⟩
                rw [← hc] at hg ⊢
                obtain ⟨Z, rfl, s0, s1, s2⟩ := rqEl (E7.out.new hmz) (Nat.le_refl _) hg
                have hcl2 : c < (ks.filter fun x => !φ x).length := (List.getElem?_eq_some_iff.1 hg).1
                have hcl : decide ((ks.filter fun x => !φ x).length ≤ c) = false := by have := (List.getElem?_eq_some_iff.1 hg).1; simp only [decide_eq_false_iff_not]; omega
                have HC := Lib.hid hc
                have d1 : Hid (((ks.take (n + 1)).filter fun x => !φ x).length = c + 1) := by show _ = _; rw [F2.out, FT.out, Bool.not_false, if_pos rfl, List.length_append, HC.out]; rfl
                have d2 : Hid (((ks.take (n + 1)).filter φ).length = ((ks.take n).filter φ).length) := by show _ = _; rw [F1.out, FT.out]; simp
                generalize ((ks.take n).filter φ).length = c2 at d2 ⊢
                clear hkr hphi eq hg hc
                go_wp2_with fail
                refine wp_region2 [] [] (by kernel_rfl) (by kernel_rfl) ?_
                repeat (first | (refine reg_anyT (by rfl) (fun K hK => ?_); go_simp; refine hK _ _ ?_; clear hK K) | (refine reg_read (by rfl) (fun K hK => ?_); go_simp; refine hK _ _ ?_; clear hK K))
                refine reg_nil (fun nd => ?_)
                go_wp2_with fail
                exact ⟨⟨n + 1, by go_num, by omega, by rw [d2.out], by rw [d1.out]; go_num, hmz.drewN _⟩, by simp [intOf]; omega⟩
            · have hnn : n = ks.length := by omega
              have TZ := Lib.hid (T7.out.new hmz)
              have MZ := Lib.hid (M7.out.trans hmz)
              have d1 : ((ks.take n).filter φ).length = (ks.filter φ).length := by rw [hnn, List.take_length]
              have d2 : ((ks.take n).filter fun x => !φ x).length = (ks.filter fun x => !φ x).length := by rw [hnn, List.take_length]
              rw [d1, d2]
              clear hnn hmz d1 d2
              go_wp2_with fail
              refine (flMany q b M x y z _ wz TZ.out (by omega)).mono ?_; rw [GONE.out]; rintro e w9 ⟨rfl, m9⟩
              go_wp2_with fail
              go_ret
              exact ⟨rfl, MZ.out.trans m9⟩
        · clear hend
          go_wp2_with fail
          refine (flAll b M x y z ks wr hB.out.two.t (by omega) hB.out.ok.i64).mono ?_; rintro e w5 ⟨v5, rfl, o5, m5⟩
          have B5 := Lib.hid (hB.out.new m5)
          have M5 := Lib.hid (HM.out.trans m5)
          have O5 := Lib.hid o5
          have hMl : M < wr.heap.size := hB.out.two.t.lt.2
          have hw5 : wr.heap.size ≤ w5.heap.size := m5.size
          clear o5 m5
          go_wp2_with fail
          obtain ⟨φ, hφ⟩ : ∃ φ : Int × Rq → Bool, φ = fun x => x.2.p == q := ⟨_, rfl⟩
          have HPHI := Lib.hid hφ
          refine (flDrop q b M x y z ks w5 B5.out.two.t (by omega) B5.out.ok.i64).mono ?_
          rw [show (ks.filter fun x => x.2.p == q) = ks.filter φ by rw [hφ], show (ks.filter fun x => !(x.2.p == q)) = ks.filter (fun x => !φ x) by rw [hφ]]
          rintro e w6 ⟨⟨v6, rfl, o6⟩, t6, m6⟩
          have T6 := Lib.hid t6
          have M6 := Lib.hid (M5.out.new m6 (by intro i hi; have := HN.out; omega))
          have O56 := Lib.hid (owns_mod O5.out m6 (fun i hi e => by omega))
          have O6 := Lib.hid o6
          have GONE := Lib.hid (show many (ks.filter fun x => !φ x) q = 0 by rw [hφ]; exact many_gone ks q)
          have OK6 := Lib.hid (B5.out.ok.filter (fun x => !φ x))
          have n1 : (ks.filter φ).length ≤ 256 := by have := List.length_filter_le φ ks; omega
          have n2 : (ks.filter fun x => !φ x).length ≤ 256 := by have := List.length_filter_le (fun x => !φ x) ks; omega
          clear hφ o6 t6 m6 O5
          go_wp2_with fail
          refine (flAll b M x y z _ w6 T6.out (by omega) OK6.out.i64).mono ?_; rintro e w7 ⟨v7, rfl, o7, m7⟩
          have T7 := Lib.hid (T6.out.new m7)
          have M7 := Lib.hid (M6.out.trans m7)
          obtain ⟨a5, k5, rfl, _, e5, _⟩ := (owns_new O56.out m7).els
          obtain ⟨a6, k6, rfl, _, e6, _⟩ := (owns_new O6.out m7).els
          obtain ⟨a7, k7, rfl, _, e7, _⟩ := o7.els
          have E5 := Lib.hid e5; have E6 := Lib.hid e6; have E7 := Lib.hid e7
          clear o7 m7 e5 e6 e7 O56 O6 M6 T6
          go_wp2_with fail
          go_loopw [16, 17, 18] (fun u v i ws => ∃ n : Nat, i = .int .i64 n ∧ n ≤ ks.length ∧ u = .int .i64 (((ks.take n).filter φ).length : Nat) ∧ v = .int .i64 (((ks.take n).filter fun x => !φ x).length : Nat) ∧ Mod (fun _ => False) w7 ws) (fun _ _ i _ => ks.length - (intOf i).toNat)
          case atStart => exact ⟨0, rfl, Nat.zero_le _, rfl, rfl, Mod.refl _ _⟩
          case round =>
            obtain ⟨n, rfl, hn, rfl, rfl, hmz⟩ := hrel
            obtain ⟨wz, hwz⟩ : ∃ wz : World, wz = wr := ⟨_, rfl⟩
            rw [← hwz] at hmz ⊢
            clear hwz
            by_cases hlz : (n : Int) < ks.length
            · obtain ⟨⟨k', r⟩, hkr⟩ : ∃ q, ks[n]? = some q := ⟨_, List.getElem?_eq_getElem (by omega)⟩
              obtain ⟨Y, rfl, p0, p1, p2⟩ := rqEl (E5.out.new hmz) (Nat.le_refl _) hkr
              have F1 := Lib.hid (filter_take φ ks n (k', r) hkr)
              have F2 := Lib.hid (filter_take (fun x => !φ x) ks n (k', r) hkr)
              have hphi : φ (k', r) = (r.p == q) := by rw [HPHI.out]
              have hmeas : ks.length - (n + 1) < ks.length - n := by omega
              by_cases eq : r.p = q
              · have e' : (r.p == q) = true := by simpa using eq
                have FT := Lib.hid (hphi.trans e')
                have hg := filter_get φ hkr FT.out
                obtain ⟨c, hc⟩ : ∃ c, c = ((ks.take n).filter φ).length := ⟨_, rfl⟩
                rw [← hc] at hg ⊢
                obtain ⟨Z, rfl, s0, s1, s2⟩ := rqEl (E6.out.new hmz) (Nat.le_refl _) hg
                have hcl2 : c < (ks.filter φ).length := (List.getElem?_eq_some_iff.1 hg).1
                have hcl : decide ((ks.filter φ).length ≤ c) = false := by have := (List.getElem?_eq_some_iff.1 hg).1; simp; omega
                have HC := Lib.hid hc
                have d1 : Hid (((ks.take (n + 1)).filter φ).length = c + 1) := by show _ = _; rw [F1.out, FT.out, if_pos rfl, List.length_append, HC.out]; rfl
                have d2 : Hid (((ks.take (n + 1)).filter fun x => !φ x).length = ((ks.take n).filter fun x => !φ x).length) := by show _ = _; rw [F2.out, FT.out]; simp
                generalize ((ks.take n).filter fun x => !φ x).length = c2 at d2 ⊢
                clear hkr hphi eq hg hc
                go_wp2_with fail
                refine wp_region2 [] [] (by kernel_rfl) (by kernel_rfl) ?_
                repeat (first | (refine reg_anyT (by rfl) (fun K hK => ?_); go_simp; refine hK _ _ ?_; clear hK K) | (refine reg_read (by rfl) (fun K hK => ?_); go_simp; refine hK _ _ ?_; clear hK K))
                refine reg_nil (fun nd => ?_)
                go_wp2_with fail
                exact ⟨⟨n + 1, by go_num, by omega, by rw [d1.out]; go_num, by rw [d2.out], hmz.drewN _⟩, by simp [intOf]; omega⟩
              · have e' : (r.p == q) = false := by simpa using eq
                have FT := Lib.hid (hphi.trans e')
                have hg := filter_get (fun x => !φ x) hkr (by show (!φ (k', r)) = true; rw [FT.out]; rfl)
                obtain ⟨c, hc⟩ : ∃ c, c = ((ks.take n).filter fun x => !φ x).length := ⟨_, rfl⟩
                rw [← hc] at hg ⊢
                obtain ⟨Z, rfl, s0, s1, s2⟩ := rqEl (E7.out.new hmz) (Nat.le_refl _) hg
                have hcl2 : c < (ks.filter fun x => !φ x).length := (List.getElem?_eq_some_iff.1 hg).1
                have hcl : decide ((ks.filter fun x => !φ x).length ≤ c) = false := by have := (List.getElem?_eq_some_iff.1 hg).1; simp only [decide_eq_false_iff_not]; omega
                have HC := Lib.hid hc
                have d1 : Hid (((ks.take (n + 1)).filter fun x => !φ x).length = c + 1) := by show _ = _; rw [F2.out, FT.out, Bool.not_false, if_pos rfl, List.length_append, HC.out]; rfl
                have d2 : Hid (((ks.take (n + 1)).filter φ).length = ((ks.take n).filter φ).length) := by show _ = _; rw [F1.out, FT.out]; simp
                generalize ((ks.take n).filter φ).length = c2 at d2 ⊢
                clear hkr hphi eq hg hc
                go_wp2_with fail
                refine wp_region2 [] [] (by kernel_rfl) (by kernel_rfl) ?_
                repeat (first | (refine reg_anyT (by rfl) (fun K hK => ?_); go_simp; refine hK _ _ ?_; clear hK K) | (refine reg_read (by rfl) (fun K hK => ?_); go_simp; refine hK _ _ ?_; clear hK K))
                refine reg_nil (fun nd => ?_)
                go_wp2_with fail
                exact ⟨⟨n + 1, by go_num, by omega, by rw [d2.out], by rw [d1.out]; go_num, hmz.drewN _⟩, by simp [intOf]; omega⟩
            · have hnn : n = ks.length := by omega
              have TZ := Lib.hid (T7.out.new hmz)
              have MZ := Lib.hid (M7.out.trans hmz)
              have d1 : ((ks.take n).filter φ).length = (ks.filter φ).length := by rw [hnn, List.take_length]
              have d2 : ((ks.take n).filter fun x => !φ x).length = (ks.filter fun x => !φ x).length := by rw [hnn, List.take_length]
              rw [d1, d2]
              clear hnn hmz d1 d2
              go_wp2_with fail
              refine (flMany q b M x y z _ wz TZ.out (by omega)).mono ?_; rw [GONE.out]; rintro e w9 ⟨rfl, m9⟩
              go_wp2_with fail
              go_ret
              exact ⟨rfl, MZ.out.trans m9⟩
  · have HOK := Lib.hid hok
    clear hok
    go_enter Try.func7, Try.ntmps7
    go_wp2_with fail
    rw [← HW0.out]
    refine (awake16 w0).mono ?_; rintro e w1 ⟨rfl, m1⟩
    have X1 := Lib.hid (X0.out.mod m1 (fun h => h))
    have M1 := Lib.hid (MX.out.trans m1)
    have c0 := X1.out.cell 0; have c1 := X1.out.cell 1; have c2 := X1.out.cell 2
    clear m1
    go_wp2_with fail
    refine (flNewBad x y z _ HOK.out).mono ?_; rintro e w' ⟨rfl, rfl⟩
    go_wp2_with fail
    go_ret
    exact ⟨rfl, M1.out⟩
end Go.Proofs.Ytfdmamaldgpbaaa
