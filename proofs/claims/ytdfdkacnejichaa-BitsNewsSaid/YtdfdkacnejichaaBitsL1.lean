/- The walk of the statement BitsNews: the call returns true and turns nothing that was there; no condition. -/
import Derived.Test.YtdfdkacnejichaaBitsW
namespace Go.Proofs.Ytdfdkacnejichaa
open Go Go.RowKit

/-- A slice of bytes that came in. -/
theorem IsRow.bytes {w : World} {a : Option Addr} {len cap : Nat} {zs : List Int} (h : IsRow .u8 w a len cap zs) : ∃ bs : List Nat, bs.length = len ∧ (∀ x ∈ bs, x < 256) ∧ Sl w (.slice a len cap) 1 len (byts bs) := by
  have hs := h.sl
  have hwf : ∀ n ∈ zs.take len, 0 ≤ n ∧ n < 256 := by
    intro n hn
    have hm : n ∈ zs := List.mem_of_mem_take hn
    rcases h with ⟨_, _, _, rfl⟩ | ⟨_, _, _, _, _, _, h⟩
    · cases hm
    · have := h n hm
      simp [Lit.wf, IntKind.min, IntKind.max, IntKind.signed, IntKind.bits] at this
      omega
  have hl := hs.len
  generalize zs.take len = xs at hs hwf hl
  refine ⟨xs.map Int.toNat, by simpa using hl, ?_, ?_⟩
  · intro x hx
    obtain ⟨n, hn, rfl⟩ := List.mem_map.1 hx
    have := hwf n hn
    omega
  · have : byts (xs.map Int.toNat) = xs.map (Value.int .u8) := by
      unfold byts
      rw [List.map_map]
      apply List.map_congr_left
      intro n hn
      have := hwf n hn
      show Value.int .u8 ((n.toNat : Nat) : Int) = _
      rw [Int.toNat_of_nonneg this.1]
    rw [this]; exact hs

theorem load_yes (bs : List Nat) (n : Nat) (ho : ∀ x, n ≤ x → ofB bs ((n + 7) / 8) x = false) : ofBn bs n = ofB bs ((n + 7) / 8) := by
  funext x
  by_cases hx : x < n
  · unfold ofBn ofB
    have : x < 8 * ((n + 7) / 8) := by omega
    simp [hx, this]
  · rw [ho x (by omega)]
    unfold ofBn
    simp [hx]
theorem load_no (bs : List Nat) (n : Nat) (hl : bs.length = (n + 7) / 8) (hb : ∀ x ∈ bs, x < 256) (ho : ∃ x, n ≤ x ∧ ofB bs ((n + 7) / 8) x = true) : bytesOf (ofBn bs n) n ≠ bs := by
  obtain ⟨x, h1, h2⟩ := ho
  intro e
  have hx : x < 8 * ((n + 7) / 8) := by
    unfold ofB at h2
    rw [Bool.and_eq_true] at h2
    exact of_decide_eq_true h2.1
  have e2 := bytesOf_ofB bs n hl hb
  rw [← e] at e2
  have h3 := congrArg (fun l => l[x / 8]?) e2
  simp only [bytesOf, List.getElem?_map, List.getElem?_range (show x / 8 < (n + 7) / 8 by omega), Option.map_some, Option.some.injEq] at h3
  rw [← bytesOf, e] at h3
  have h4 := pk_inj h3 (x % 8) (by omega)
  have h5 : 8 * (x / 8) + x % 8 = x := by omega
  simp only [h5] at h4
  rw [h2] at h4
  unfold ofBn at h4
  have : ¬ x < n := by omega
  simp [this] at h4

set_option maxHeartbeats 2000000 in
theorem bitsNews_walk (n : Int) (a1 : Option Addr) (len1 cap1 : Nat) (z1 : List Int) (w : World) (_ : (Lit.int .i64 n).wf = true) (h1 : IsRow .u8 w a1 len1 cap1 z1) :
    Calls Try.prog 3 #[.int .i64 n, .slice a1 len1 cap1] w fun e w' => e = .returned (.bool true) ∧ Below w.heap.size w w' := by
  obtain ⟨bs, hbl, hb, hs⟩ := h1.bytes
  clear h1
  refine Calls.mono (R := fun e w' => e = .returned (.bool true) ∧ Mod (fun _ => False) w w') ?_ (fun e w' ⟨h1, h2⟩ => ⟨h1, h2.below (Nat.le_refl _) (fun _ h => h.elim)⟩)
  by_cases hlen : 10000 < len1
  · have h5 : (10000 : Int) < len1 := by omega
    clear hbl hb hs
    go_enter Try.func3, Try.ntmps3
    go_wp2_with fail
    refine (awake02 _).mono ?_; rintro e w1 ⟨rfl, m1⟩
    go_wp2_with fail
    go_ret
    exact ⟨rfl, m1⟩
  · have h5 : ¬ (10000 : Int) < len1 := by omega
    by_cases hbad : n < 0 ∨ 65536 < n
    · have HBAD := Lib.hid hbad
      clear hbl hb hs hbad
      go_enter Try.func3, Try.ntmps3
      go_wp2_with fail
      refine (awake02 _).mono ?_; rintro e w1 ⟨rfl, m1⟩
      go_wp2_with fail
      refine (bitsNewBad _ _ HBAD.out).mono ?_; rintro e w' ⟨rfl, rfl⟩
      go_wp2_with fail
      refine (refNewBad _ _ HBAD.out).mono ?_; rintro e w' ⟨rfl, rfl⟩
      go_wp2_with fail
      refine (bitsLoadBad _ _ _ HBAD.out).mono ?_; rintro e w' ⟨rfl, rfl⟩
      go_wp2_with fail
      refine (refLoadBad _ _ _ HBAD.out).mono ?_; rintro e w' ⟨rfl, rfl⟩
      go_wp2_with fail
      go_quiet (fail)
      go_wp2_with fail
      go_ret
      exact ⟨rfl, m1.drewN _⟩
    · obtain ⟨k, rfl⟩ : ∃ k : Nat, n = k := ⟨n.toNat, by omega⟩
      have hk : k ≤ 65536 := by omega
      have HK := Lib.hid hk
      by_cases hform : len1 ≠ (k + 7) / 8
      · have HF := Lib.hid hform
        clear hbl hb hs hbad hk hform
        go_enter Try.func3, Try.ntmps3
        go_wp2_with fail
        refine (awake02 _).mono ?_; rintro e w1 ⟨rfl, m1⟩
        go_wp2_with fail
        refine (bitsNew _ _ HK.out).mono ?_; rintro e w2 ⟨rfl, _, m2⟩
        go_wp2_with fail
        refine (refNew _ _ HK.out).mono ?_; rintro e w3 ⟨rfl, _, m3⟩
        go_wp2_with fail
        refine (bitsLoadForm _ _ _ _ _ HK.out HF.out).mono ?_; rintro e w4 ⟨rfl, m4⟩
        go_wp2_with fail
        refine (refLoadForm _ _ _ _ _ HK.out HF.out).mono ?_; rintro e w5 ⟨rfl, m5⟩
        go_wp2_with fail
        go_quiet (fail)
        go_wp2_with fail
        go_ret
        exact ⟨rfl, ((((m1.trans m2).trans m3).trans m4).trans m5).drewN _⟩
      · have hlf : len1 = (k + 7) / 8 := by omega
        have HF := Lib.hid hlf
        have HS := Lib.hid hs
        have HB := Lib.hid hb
        have HL := Lib.hid hbl
        clear hbl hb hs hbad hk hform hlf
        go_enter Try.func3, Try.ntmps3
        go_wp2_with fail
        refine (awake02 _).mono ?_; rintro e w1 ⟨rfl, m1⟩
        go_wp2_with fail
        refine (bitsNew _ _ HK.out).mono ?_; rintro e w2 ⟨rfl, _, m2⟩
        go_wp2_with fail
        refine (refNew _ _ HK.out).mono ?_; rintro e w3 ⟨rfl, _, m3⟩
        have s3 : Sl w3 (.slice a1 len1 cap1) 1 len1 (byts bs) := ((HS.out.mod m1 (fun _ _ _ _ h => h)).mod m2 (fun _ _ _ _ h => h)).mod m3 (fun _ _ _ _ h => h)
        have S3 := Lib.hid s3
        have m13 := (m1.trans m2).trans m3
        clear s3 m1 m2 m3
        go_wp2_with fail
        refine (bitsLoad _ _ _ _ _ _ HK.out HF.out S3.out HB.out).mono ?_; rintro e w4 ⟨m4, h4⟩
        have S4 : Hid (Sl w4 (.slice a1 len1 cap1) 1 len1 (byts bs)) := S3.out.mod m4 (fun _ _ _ _ h => h)
        have hfl : bs.length = (k + 7) / 8 := by rw [HL.out, HF.out]
        rcases h4 with ⟨rfl, h4⟩ | ⟨rfl, hx⟩
        · go_wp2_with fail
          refine (refLoad _ _ _ _ _ _ HK.out HF.out S4.out HB.out).mono ?_; rintro e w5 ⟨m5, h5⟩
          have hyes : ofBn bs k = ofB bs ((k + 7) / 8) := load_yes bs k (by rw [← HF.out]; exact h4.out)
          have hbe := bytesOf_ofB bs k hfl HB.out
          rcases h5 with ⟨rfl, h5, _⟩ | ⟨rfl, hno⟩
          · have g4 := h4.mod m5 (fun h => h) (fun h => h)
            rw [hyes, ← HF.out] at h5
            rw [← HF.out] at hbe
            have m15 := (m13.trans m4).trans m5
            clear hyes h4 hfl m4 m5 m13 hbe
            go_wp2_with fail
            refine wp_region_stages0 [0, 0, 0, 0, 4, 3, 0, 4, 1, 0, 0, 0, 1, 0, 0, 0, 0, 0] (by kernel_rfl) (by kernel_rfl) ?_
            iterate 4 (refine stage_any (fun K hK => ?_); go_simp; refine hK _ _ ?_; clear hK K)
            obtain ⟨m, hm⟩ : ∃ m, m = (k + 7) / 8 := ⟨_, rfl⟩
            obtain ⟨D1, hD1⟩ : ∃ D : World → Prop, D = fun w' => Mod (fun _ => False) w5 w' ∧ w'.heap.size = w5.heap.size + 1 ∧ Sl w' (.slice (some ⟨w5.heap.size, 0, none⟩) m m) 1 m (byts (bytesOf (ofB bs len1) k)) := ⟨_, rfl⟩
            obtain ⟨D2, hD2⟩ : ∃ D : World → Prop, D = fun w' => ∃ w1, D1 w1 ∧ Mod (fun _ => False) w1 w' ∧ Sl w' (.slice (some ⟨w5.heap.size + 1, 0, none⟩) m m) 1 m (byts (bytesOf (upto (ofB bs len1) k) k)) := ⟨_, rfl⟩
            have G1 : Good (fun _ => True) D1 := by subst hD1; exact ⟨fun w n ⟨h1, h2, h3⟩ => ⟨h1.drewN n, h2, h3.drewN n⟩, fun _ _ => trivial⟩
            have G2 : Good (fun _ => True) D2 := by subst hD2; exact ⟨fun w n ⟨w1, h1, h2, h3⟩ => ⟨w1, h1, h2.drewN n, h3.drewN n⟩, fun _ _ => trivial⟩
            have e1 : ∀ w', D1 w' → Mod (fun _ => False) w5 w' ∧ w'.heap.size = w5.heap.size + 1 ∧ Sl w' (.slice (some ⟨w5.heap.size, 0, none⟩) m m) 1 m (byts (bytesOf (ofB bs len1) k)) := by subst hD1; exact fun _ h => h
            have e2 : ∀ w', D2 w' → ∃ w1, D1 w1 ∧ Mod (fun _ => False) w1 w' ∧ Sl w' (.slice (some ⟨w5.heap.size + 1, 0, none⟩) m m) 1 m (byts (bytesOf (upto (ofB bs len1) k) k)) := by subst hD2; exact fun _ h => h
            have i1 : ∀ w', Mod (fun _ => False) w5 w' ∧ w'.heap.size = w5.heap.size + 1 ∧ Sl w' (.slice (some ⟨w5.heap.size, 0, none⟩) m m) 1 m (byts (bytesOf (ofB bs len1) k)) → D1 w' := by subst hD1; exact fun _ h => h
            have i2 : ∀ w', (∃ w1, D1 w1 ∧ Mod (fun _ => False) w1 w' ∧ Sl w' (.slice (some ⟨w5.heap.size + 1, 0, none⟩) m m) 1 m (byts (bytesOf (upto (ofB bs len1) k) k))) → D2 w' := by subst hD2; exact fun _ h => h
            have E1 := Lib.hid e1; have E2 := Lib.hid e2; have I1 := Lib.hid i1; have I2 := Lib.hid i2; have H1 := Lib.hid G1; have H2 := Lib.hid G2; have HM := Lib.hid hm
            clear hD1 hD2 e1 e2 i1 i2 G1 G2 hm
            refine stage_new (fun K hK => ?_); go_simp
            apply new_class (v := .slice (some ⟨w5.heap.size, 0, none⟩) m m) D1
            · intro j
              refine (bitsBytes _ _ _ _ _ (g4.drewN j).toBRaw).mono ?_
              rintro e w' ⟨rfl, h1, h2, h3⟩
              rw [← HM.out]
              rw [← HM.out] at h1
              exact ⟨rfl, I1.out _ ⟨⟨h2.os, h2.tape, h2.output, h2.size, h2.block⟩, h3, h1⟩⟩
            · exact H1.out
            · intro w' hw'
              obtain ⟨h1, h2, h3⟩ := E1.out w' hw'
              exact ⟨w5, ⟨0, rfl⟩, h1.size, fun j hj => h1.block j hj (fun h => h)⟩
            refine hK _ _ ?_; clear hK K
            refine stage_hold_v (by rfl) (.string (strOf (bytesOf (ofB bs len1) k))) (sq_convert _ _ _ rfl (fun w' hw' => str_conv w' _ _ 5 (by kernel_rfl) (by kernel_rfl) (by kernel_rfl) _ m _ ?_)) ?_
            · obtain ⟨w0, h0, h1, h2⟩ := hw'
              exact (E1.out w0 h0).2.2.keep fun p u hp _ => (World.cell?_of_block (w := w0) (h2 p.block (World.block_lt_of_cell? w0 p hp))).trans hp
            refine stage_any (fun K hK => ?_); go_simp; refine hK _ _ ?_; clear hK K
            refine stage_new (fun K hK => ?_); go_simp
            apply new_classC (v := .slice (some ⟨w5.heap.size + 1, 0, none⟩) m m) D2
            · intro w6 hw6
              obtain ⟨h1, h2, h3⟩ := E1.out w6 hw6
              refine (refBytes _ _ _ _ _ (h5.mod h1 (fun h => h) (fun h => h))).mono ?_
              rintro e w' ⟨rfl, g1, g2, _⟩
              rw [h2, ← HM.out]
              rw [h2, ← HM.out] at g1
              exact ⟨rfl, I2.out _ ⟨w6, hw6, g2, g1⟩⟩
            · exact H2.out
            · intro w' hw'
              obtain ⟨w6, h1, h2, _⟩ := E2.out w' hw'
              exact ⟨w6, h1, h2.size, fun j hj => h2.block j hj (fun h => h)⟩
            refine hK _ _ ?_; clear hK K
            refine stage_pin_v (by rfl) (.string (strOf (bytesOf (upto (ofB bs len1) k) k))) (sq_convert _ _ _ rfl (fun w' hw' => str_conv w' _ _ 5 (by kernel_rfl) (by kernel_rfl) (by kernel_rfl) _ m _ ?_)) ?_
            · obtain ⟨w6, _, _, h3⟩ := E2.out w' hw'
              exact h3
            rw [bytesOf_upto _ _ g4.out]
            iterate 3 (refine stage_any (fun K hK => ?_); go_simp; refine hK _ _ ?_; clear hK K)
            refine stage_pin (fun K hK => ?_); go_simp
            apply pin_class
            · intro w' hw'
              obtain ⟨w6, h1, h2, _⟩ := E2.out w' hw'
              refine (bitsLen _ _ _ _ _ ((g4.mod (E1.out w6 h1).1 (fun h => h) (fun h => h)).mod h2 (fun h => h) (fun h => h))).mono ?_
              rintro e w'' ⟨rfl, rfl⟩
              exact ⟨rfl, 0, rfl⟩
            refine hK _ _ ?_; clear hK K
            iterate 5 (refine stage_any (fun K hK => ?_); go_simp; refine hK _ _ ?_; clear hK K)
            refine stage_nil ?_
            intro w7 hw7
            obtain ⟨w6, h1, h2, _⟩ := E2.out w7 hw7
            have m7 := (m15.trans (E1.out w6 h1).1).trans h2
            clear hw7 h1 h2
            go_wp2_with fail
            go_ret
            exact ⟨by simp, m7⟩
          · exact absurd (by rw [hyes]; exact hbe) hno
        · go_wp2_with fail
          refine (refLoad _ _ _ _ _ _ HK.out HF.out S4.out HB.out).mono ?_; rintro e w5 ⟨m5, h5⟩
          rcases h5 with ⟨rfl, _, hbe⟩ | ⟨rfl, _⟩
          · exact absurd hbe (load_no bs k hfl HB.out (by rw [← HF.out]; exact hx))
          · have m15 := (m13.trans m4).trans m5
            clear hx hfl m4 m5 m13
            go_wp2_with fail
            go_quiet (fail)
            go_wp2_with fail
            go_ret
            exact ⟨rfl, m15.drewN _⟩
end Go.Proofs.Ytdfdkacnejichaa
