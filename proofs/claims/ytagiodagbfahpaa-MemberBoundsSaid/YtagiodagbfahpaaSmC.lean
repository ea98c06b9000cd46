/- The reference of member: first; no condition. -/
import Derived.Test.YtagiodagbfahpaaSmP
namespace Go.Proofs.Ytagiodagbfahpaa
open Go Go.RowKit

set_option maxRecDepth 100000 in
set_option maxHeartbeats 4000000 in
theorem refVFirst (b base : Nat) (S : Int × Rc) (most : Int) (q0 : Int × Rc) (tl : List (Int × Rc)) (w : World) (h : RW w b base S most (q0 :: tl)) (hlen : tl.length ≤ 1000) :
    Calls Try.prog 58 #[.pointer (some ⟨b, 0, none⟩)] w fun e w' => (∃ p : Nat, e = .returned (.int .i64 p) ∧ (q0 :: tl)[p]? = some (lowF q0 tl)) ∧ Mod (fun _ => False) w w' := by
  obtain ⟨k2, hk2⟩ : ∃ k2, k2 = q0 :: tl := ⟨_, rfl⟩
  rw [← hk2] at h ⊢
  have HQT := Lib.hid hk2
  have HKL := Lib.hid (show k2.length = tl.length + 1 by rw [hk2]; rfl)
  have T7 := Lib.hid h
  clear hk2 h
  go_enter Try.func58, Try.ntmps58
  go_wp2_with fail
  go_loopw [3, 4] (fun v u wr => ∃ (p k : Nat), v = .int .i64 p ∧ u = .int .i64 ((k : Int) + 1) ∧ k ≤ tl.length ∧ p ≤ k ∧ Hid (k2[p]? = some (lowF q0 (tl.take k))) ∧ Hid (Mod (fun _ => False) w wr)) (fun _ u _ => tl.length + 1 - (intOf u).toNat)
  case atStart => exact ⟨0, 0, rfl, rfl, Nat.zero_le _, Nat.le_refl _, by show _ = _; rw [HQT.out]; rfl, Mod.refl _ _⟩
  case round =>
    obtain ⟨p, k, rfl, rfl, hk, hpk, hp, hm⟩ := hrel
    have T9 := Lib.hid (T7.out.new hm.out)
    obtain ⟨a, cap, _, c3, _, he9, _, _, _⟩ := T9.out.at
    by_cases hlt : (k : Int) + 1 < k2.length
    · obtain ⟨⟨x, r⟩, hkr⟩ : ∃ q, k2[k + 1]? = some q := ⟨_, List.getElem?_eq_getElem (by omega)⟩
      obtain ⟨⟨y, r'⟩, hy⟩ : ∃ q, q = lowF q0 (tl.take k) := ⟨_, rfl⟩
      have hpr : k2[p]? = some (y, r') := by rw [hy]; exact hp.out
      obtain ⟨X, rfl, p0, p1, p2, p3⟩ := recEl he9.out (Nat.le_refl _) hkr
      obtain ⟨X', hX, q1, q2, q3, q4⟩ := recEl he9.out (Nat.le_refl _) hpr
      cases hX
      have hpi : (p : Int) < k2.length := by omega
      have hplt : p < k2.length := by omega
      have htk : Hid (tl.take (k + 1) = tl.take k ++ [(x, r)]) := by
        have : tl[k]? = some (x, r) := by
          have := hkr
          rw [HQT.out] at this
          simpa using this
        show _ = _
        rw [List.take_add_one, this]
        rfl
      have hsn := lowF_snoc q0 (tl.take k) (x, r)
      rw [← hy] at hsn
      have HYES : Hid (lessF (x, r) (y, r') → k2[k + 1]? = some (lowF q0 (tl.take (k + 1)))) := by
        intro hl
        rw [hkr, htk.out, hsn, if_pos hl]
      have HNO : Hid (¬ lessF (x, r) (y, r') → k2[p]? = some (lowF q0 (tl.take (k + 1)))) := by
        intro hl
        rw [hpr, htk.out, hsn, if_neg hl]
      have HMR := Lib.hid ((hm.out.alloc (.cells #[.int .i64 x, .int .i64 r.s, .int .i64 r.u, .int .i64 r.b] TMb)).alloc (.cells #[.int .i64 y, .int .i64 r'.s, .int .i64 r'.u, .int .i64 r'.b] TMb))
      have hkk : (0 : Int) ≤ (k : Int) + 1 := by omega
      have htn : ((k : Int) + 1).toNat = k + 1 := by omega
      have hkl9 : k + 1 < k2.length := by omega
      have hktl : k + 1 ≤ tl.length := by have := HKL.out; omega
      have hm0 := hm.out
      clear hkr hpr hsn hy hp hm htk HQT HMR
      obtain ⟨s, u, bb⟩ := r
      obtain ⟨s', u', bb'⟩ := r'
      dsimp only at *
      go_upto_region 6 with fail
      have ma := (Mod.refl (fun _ => False) wr).alloc (.cells #[.int .i64 x, .int .i64 s, .int .i64 u, .int .i64 bb] TMb)
      have XA := Lib.hid (Blk.new wr #[.int .i64 x, .int .i64 s, .int .i64 u, .int .i64 bb] TMb)
      obtain ⟨B, hB⟩ : ∃ B, B = wr.heap.size := ⟨_, rfl⟩
      rw [← hB] at XA ⊢
      have k3 := ma.cell c3 (fun h => h)
      have k0 := ma.cell q1 (fun h => h); have k1 := ma.cell q2 (fun h => h); have k4 := ma.cell q3 (fun h => h); have k5 := ma.cell q4 (fun h => h)
      have HM1 := Lib.hid (hm0.trans ma)
      clear ma hm0 c3 p0 p1 p2 p3 q1 q2 q3 q4 hB
      generalize wr.alloc (.cells #[.int .i64 x, .int .i64 s, .int .i64 u, .int .i64 bb] TMb) = w1 at *
      go_upto_region 7 with fail
      have ma := (Mod.refl (fun _ => False) w1).alloc (.cells #[.int .i64 y, .int .i64 s', .int .i64 u', .int .i64 bb'] TMb)
      have YA := Lib.hid (Blk.new w1 #[.int .i64 y, .int .i64 s', .int .i64 u', .int .i64 bb'] TMb)
      have XA2 := Lib.hid (XA.out.mod ma (fun h => h))
      obtain ⟨B2, hB2⟩ : ∃ B, B = w1.heap.size := ⟨_, rfl⟩
      rw [← hB2] at YA ⊢
      have HMR := Lib.hid (HM1.out.trans ma)
      clear ma k3 k0 k1 k4 k5 hB2 XA
      generalize w1.alloc (.cells #[.int .i64 y, .int .i64 s', .int .i64 u', .int .i64 bb'] TMb) = w2 at *
      have p0 := XA2.out.cell 0; have p1 := XA2.out.cell 1; have p2 := XA2.out.cell 2; have p3 := XA2.out.cell 3
      have q1 := YA.out.cell 0; have q2 := YA.out.cell 1; have q3 := YA.out.cell 2; have q4 := YA.out.cell 3
      rcases Int.lt_trichotomy u' u with g | g | g
      · have HL := Lib.hid (HYES.out (.inl g))
        go_wp2_with fail
        exact ⟨⟨k + 1, k + 1, by go_num, by go_num, by omega, Nat.le_refl _, HL, HMR⟩, by simp [intOf]; omega⟩
      · subst g
        rcases Int.lt_trichotomy bb bb' with g | g | g
        · have HL := Lib.hid (HYES.out (.inr ⟨rfl, .inl g⟩))
          go_wp2_with fail
          exact ⟨⟨k + 1, k + 1, by go_num, by go_num, by omega, Nat.le_refl _, HL, HMR⟩, by simp [intOf]; omega⟩
        · subst g
          by_cases gk : y < x
          · have HL := Lib.hid (HYES.out (.inr ⟨rfl, .inr ⟨rfl, gk⟩⟩))
            go_wp2_with fail
            exact ⟨⟨k + 1, k + 1, by go_num, by go_num, by omega, Nat.le_refl _, HL, HMR⟩, by simp [intOf]; omega⟩
          · have dk : decide (y < x) = false := by simpa using gk
            have HL := Lib.hid (HNO.out (by unfold lessF; simp only; omega))
            go_wp2_with fail
            exact ⟨⟨p, k + 1, rfl, by go_num, by omega, by omega, HL, HMR⟩, by simp [intOf]; omega⟩
        · have d5 : decide (bb < bb') = false := by simp; omega
          have d4 : (bb == bb') = false := by simp; omega
          have HL := Lib.hid (HNO.out (by unfold lessF; simp only; omega))
          go_wp2_with fail
          exact ⟨⟨p, k + 1, rfl, by go_num, by omega, by omega, HL, HMR⟩, by simp [intOf]; omega⟩
      · have d5 : decide (u' < u) = false := by simp; omega
        have d4 : (u == u') = false := by simp; omega
        have HL := Lib.hid (HNO.out (by unfold lessF; simp only; omega))
        go_wp2_with fail
        exact ⟨⟨p, k + 1, rfl, by go_num, by omega, by omega, HL, HMR⟩, by simp [intOf]; omega⟩
    · have hkt : k = tl.length := by have := HKL.out; omega
      have hp2 := hp.out
      rw [hkt, List.take_length] at hp2
      have HP2 := Lib.hid hp2
      have hlt' : decide ((k : Int) + 1 < k2.length) = false := by simpa using hlt
      clear hkt hp2 hp
      go_wp2_with fail
      go_ret
      exact ⟨⟨p, rfl, HP2.out⟩, hm.out⟩
end Go.Proofs.Ytagiodagbfahpaa
