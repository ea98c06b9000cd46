/- The walk of the statement TopJournal: the call returns true and turns nothing that was there; no condition. -/
import Derived.Test.YtdlplablojdjlaaJw
namespace Go.Proofs.Ytdlplablojdjlaa
open Go Go.RowKit Go.IntWalk

theorem nm_bits : nmOf false = (⟨#[98, 105, 116, 115]⟩ : ByteArray) := by decide
set_option maxRecDepth 100000 in
set_option maxHeartbeats 8000000 in
theorem topJournal_walk (a0 : Int) (a1 : Option Addr) (len1 cap1 : Nat) (z1 : List Int) (w : World) (_ : (Lit.int .i64 a0).wf = true) (h1 : IsRow .i64 w a1 len1 cap1 z1) :
    Calls Try.prog 3 #[.int .i64 a0, .slice a1 len1 cap1] w fun e w' => e = .returned (.bool true) ∧ Below w.heap.size w w' := by
  refine Calls.mono (R := fun e w' => e = .returned (.bool true) ∧ Mod (fun _ => False) w w') ?_ (fun e w' ⟨h1, h2⟩ => ⟨h1, h2.below (Nat.le_refl _) (fun _ h => h.elim)⟩)
  have HN := Lib.hid (jNewDisk w.heap.size 16777216 w (Nat.le_refl _) (by omega) (by omega))
  have H1 := Lib.hid h1
  clear h1
  go_enter Try.func3, Try.ntmps3
  go_wp2_with fail
  refine HN.out.mono ?_; rintro e w1 ⟨d, rfl, ⟨m0, m1, st0, dk0⟩, n1⟩
  have DK1 := Lib.hid dk0
  have N1 := Lib.hid n1
  clear dk0 n1 HN
  go_wp2_with fail
  refine (bitsNew 8 w1 (by omega)).mono ?_; rintro e w2 ⟨rfl, b2, n2⟩
  have N2 := Lib.hid (N1.out.trans n2)
  have DK2 := Lib.hid (DK1.out.new n2)
  have B2 := Lib.hid b2
  obtain ⟨x2, hx2⟩ : ∃ x, x = w1.heap.size + 1 := ⟨_, rfl⟩
  obtain ⟨g2, hg2⟩ : ∃ x, x = w1.heap.size := ⟨_, rfl⟩
  rw [← hx2, ← hg2] at B2
  rw [← hx2]
  clear hx2 hg2 b2 n2 N1 DK1
  go_wp2_with fail
  refine (bitsLen _ _ _ _ _ B2.out).mono ?_; rintro e w3 ⟨rfl, e3⟩
  subst e3
  clear B2
  by_cases hb1 : a0 < 1
  · go_wp2_with fail
    go_ret
    exact ⟨rfl, N2.out⟩
  by_cases hb2 : 300 < a0
  · go_wp2_with fail
    go_ret
    exact ⟨rfl, N2.out⟩
  by_cases hb3 : (100 : Int) < len1
  · go_wp2_with fail
    go_ret
    exact ⟨rfl, N2.out⟩
  obtain ⟨n, rfl⟩ : ∃ n : Nat, a0 = n := ⟨a0.toNat, by omega⟩
  have HQ : Hid (1 ≤ n ∧ n ≤ 300 ∧ len1 ≤ 100) := (by omega : 1 ≤ n ∧ n ≤ 300 ∧ len1 ≤ 100)
  have HO := Lib.hid (tjOpen0 DK2.out (by simp))
  rw [nm_bits] at HO
  go_wp2_with fail
  refine HO.out.mono ?_; rintro e w4 ⟨j4, l4, m4, st4, wv4, F4, rfl, js, fs, hct, t4⟩
  have JS4 := Lib.hid (And.intro js (And.intro fs hct))
  have N4 : Hid (Mod (fun _ => False) w w4) := N2.out.new t4 (fun i e => e.1)
  clear js fs hct t4 HO DK2 N2
  go_wp2_with fail
  refine (bitsNew n w4 (by have := HQ.out; omega)).mono ?_; rintro e w5 ⟨rfl, b5, n5⟩
  have T5 : Hid (TJ w5 w.heap.size d (w4.heap.size + 1) w4.heap.size n j4 0 (fun _ => false) []) := ⟨⟨m4, st4, wv4, F4, 1, 0, JS4.out.1.new n5, JS4.out.2.1, JS4.out.2.2, rfl, fun r hr => by simp at hr, by omega, by omega⟩, b5, N4.out.size⟩
  have N5 := Lib.hid (N4.out.trans n5)
  obtain ⟨x5, hx5⟩ : ∃ x, x = w4.heap.size + 1 := ⟨_, rfl⟩
  obtain ⟨g5, hg5⟩ : ∃ x, x = w4.heap.size := ⟨_, rfl⟩
  rw [← hx5, ← hg5] at T5
  rw [← hx5]
  clear hx5 hg5 b5 n5 N4 JS4
  go_wp2_with fail
  go_loopw [9, 14] (fun jv iv wr => ∃ (j i : Nat) (f : Nat → Bool) (rs : List (List Nat)), jv = .pointer (some ⟨j, 0, none⟩) ∧ iv = .int .i64 i ∧ i ≤ len1 ∧ Hid (TJ wr w.heap.size d x5 g5 n j i f rs) ∧ Hid (Mod (fun _ => False) w wr)) (fun _ iv _ => len1 - (intOf iv).toNat)
  case atStart => exact ⟨j4, 0, _, _, rfl, rfl, Nat.zero_le _, T5, N5⟩
  case round =>
    obtain ⟨j, i, f, rs, rfl, rfl, hi, ht, hm⟩ := hrel
    by_cases hlt : i < len1
    · have hlt2 : (i : Int) < len1 := by omega
      obtain ⟨X, z, rfl, hc, hwz⟩ : ∃ X z, a1 = some X ∧ wr.cell? (X.add i) = some (.int .i64 z) ∧ (Lit.int .i64 z).wf = true := by
        rcases H1.out with ⟨_, h, _⟩ | ⟨X, rfl, h2, h3, h4, h5, h6⟩
        · omega
        · exact ⟨X, z1.getD i 0, rfl, hm.out.cell (h5 i (by omega)) (fun e => e), h6 _ (by rw [List.getD_eq_getElem?_getD, List.getElem?_eq_getElem (by omega)]; exact List.getElem_mem _)⟩
      by_cases hz : z < 0 ∨ (n : Int) ≤ z
      · have HP := Lib.hid (bitsPutBad x5 g5 n f z true wr ht.out.b hz)
        clear hz
        go_wp2_with fail
        refine HP.out.mono ?_; rintro e w6 ⟨rfl, e6⟩
        subst e6
        go_wp2_with fail
        exact ⟨⟨j, i + 1, f, rs, rfl, by first | rfl | go_num, by omega, ht.out.more (by omega), hm⟩, by simp [intOf]; omega⟩
      · obtain ⟨p, rfl⟩ : ∃ p : Nat, z = p := ⟨z.toNat, by omega⟩
        have hp : p < n := by omega
        have HP := Lib.hid (tjPut ht.out p hp)
        have M0 := Lib.hid hm.out
        clear hz hp hwz ht hm
        go_wp2_with fail
        refine HP.out.mono ?_; rintro e w6 ⟨rfl, t6, c6⟩
        have T6 := Lib.hid t6
        have M6 : Hid (Mod (fun _ => False) w w6) := M0.out.new c6 (fun i e => e.1)
        clear t6 c6 HP M0 hc
        obtain ⟨f6, hf6⟩ : ∃ f', f' = fil f p (p + 1) true := ⟨_, rfl⟩
        rw [← hf6] at T6
        clear hf6
        go_wp2_with fail
        refine (bitsBytes _ _ _ _ _ T6.out.b.toBRaw).mono ?_; rintro e w7 ⟨rfl, z7, n7, zz⟩; clear zz
        have b7 : BS w7 (.slice (some ⟨w6.heap.size, 0, none⟩) ((n + 7) / 8) ((n + 7) / 8)) (bytesOf f6 n) := ⟨by rw [len_bytesOf]; exact z7, fun _ _ _ e => by cases e; exact Nat.le_refl _⟩
        have HA := Lib.hid (tjAppend (T6.out.new n7) (by have := HQ.out; omega) HQ.out.2.1 b7)
        have M7 := Lib.hid (M6.out.trans n7)
        clear z7 n7 b7 T6 M6
        go_wp2_with fail
        refine HA.out.mono ?_; rintro e w8 ⟨rfl, t8, c8⟩
        have HC := Lib.hid (tjCommit t8 (by have := HQ.out; omega) HQ.out.1 HQ.out.2.1)
        have M8 : Hid (Mod (fun _ => False) w w8) := M7.out.new c8 (fun i e => e.1)
        clear t8 c8 HA M7
        go_wp2_with fail
        refine HC.out.mono ?_; rintro e w9 ⟨rfl, t9, c9⟩
        have T9 := Lib.hid t9
        have M9 : Hid (Mod (fun _ => False) w w9) := M8.out.new c9 (fun i e => e.1)
        clear t9 c9 HC M8
        obtain h3 | h3 : ((i : Int) % 3 == 2) = false ∨ ((i : Int) % 3 == 2) = true := by cases ((i : Int) % 3 == 2) <;> simp
        · go_wp2_with fail
          exact ⟨⟨j, i + 1, f6, _, rfl, by first | rfl | go_num, by omega, T9, M9⟩, by simp [intOf]; omega⟩
        have HCR := Lib.hid (tjCrash T9.out)
        clear T9
        go_wp2_with fail
        refine HCR.out.mono ?_; rintro e w10 ⟨⟨v10, rfl⟩, t10, c10⟩
        have HOP := Lib.hid (tjOpen t10 (by have := HQ.out; omega))
        rw [nm_bits, len_bytesOf] at HOP
        have M10 : Hid (Mod (fun _ => False) w w10) := M9.out.new c10 (fun i e => e.1)
        clear t10 c10 HCR M9
        go_wp2_with fail
        refine HOP.out.mono ?_; rintro e w11 ⟨hk, j', X', c', ua, uc, rfl, hcell, hbs, t11, c11⟩
        have HLD := Lib.hid (bitsLoad n (bytesOf f6 n) ua ((n + 7) / 8) uc w11 (by have := HQ.out; omega) rfl (by have := hbs.sl; rw [len_bytesOf] at this; exact this) (bytesOf_lt f6 n))
        have T11 := Lib.hid t11
        have M11 : Hid (Mod (fun _ => False) w w11) := M10.out.new c11 (fun i e => e.1)
        obtain ⟨K, hK⟩ : ∃ K, K = rs.length := ⟨_, rfl⟩
        rw [← hK] at hcell hk ⊢
        clear t11 c11 HOP M10 hbs hK
        go_wp2_with fail
        refine HLD.out.mono ?_; rintro e w12 ⟨n12, h12⟩
        have hofB := ofB_bytesOf f6 n T11.out.b.out
        rw [hofB] at h12
        replace h12 := h12.resolve_right fun ⟨_, y, hy1, hy2⟩ => by
          rw [T11.out.b.out y hy1] at hy2
          cases hy2
        obtain ⟨rfl, b12⟩ := h12
        have T12 := Lib.hid (T11.out.new n12)
        have M12 := Lib.hid (M11.out.trans n12)
        have B12 := Lib.hid b12
        obtain ⟨x12, hx12⟩ : ∃ x, x = w11.heap.size + 1 := ⟨_, rfl⟩
        obtain ⟨g12, hg12⟩ : ∃ x, x = w11.heap.size := ⟨_, rfl⟩
        rw [← hx12, ← hg12] at B12
        rw [← hx12]
        clear hx12 hg12 b12 n12 hofB T11 M11 hcell HLD
        go_wp2_with fail
        refine wp_region2 [(8, 4), (9, 3), (11, 4), (12, 3)] [] (by kernel_rfl) (by kernel_rfl) ?_
        repeat (first | (refine reg_anyT (by rfl) (fun K hK => ?_); go_simp; refine hK _ _ ?_; clear hK K) | (refine reg_read (by rfl) (fun K hK => ?_); go_simp; refine hK _ _ ?_; clear hK K))
        refine reg_new (by rfl) (fun rn K hK => ?_); go_simp
        refine (bitsBytes _ _ _ _ _ (B12.out.drewN rn).toBRaw).mono ?_; rintro e w13 ⟨rfl, y1, y2, y3⟩
        refine hK _ _ ⟨y2.ex, ?_⟩; clear hK K
        repeat (first | (refine reg_anyT (by rfl) (fun K hK => ?_); go_simp; refine hK _ _ ?_; clear hK K) | (refine reg_read (by rfl) (fun K hK => ?_); go_simp; refine hK _ _ ?_; clear hK K))
        refine reg_hold_v (by rfl) (by rfl) (.string (strOf (bytesOf f6 n))) (fun w' hw' => q_conv _ _ _ rfl (strB (y1.ex hw'))) ?_
        repeat (first | (refine reg_anyT (by rfl) (fun K hK => ?_); go_simp; refine hK _ _ ?_; clear hK K) | (refine reg_read (by rfl) (fun K hK => ?_); go_simp; refine hK _ _ ?_; clear hK K))
        refine reg_new (by rfl) (fun rn K hK => ?_); go_simp
        refine (bitsBytes _ _ _ _ _ ((T12.out.b.mod y2.undrew (fun h => h) (fun h => h)).drewN rn).toBRaw).mono ?_; rintro e w14 ⟨rfl, y4, y5, y6⟩
        refine hK _ _ ⟨y5.ex, ?_⟩; clear hK K
        repeat (first | (refine reg_anyT (by rfl) (fun K hK => ?_); go_simp; refine hK _ _ ?_; clear hK K) | (refine reg_read (by rfl) (fun K hK => ?_); go_simp; refine hK _ _ ?_; clear hK K))
        refine reg_hold_v (by rfl) (by rfl) (.string (strOf (bytesOf f6 n))) (fun w' hw' => q_conv _ _ _ rfl (strB (y4.ex hw'))) ?_
        repeat (first | (refine reg_anyT (by rfl) (fun K hK => ?_); go_simp; refine hK _ _ ?_; clear hK K) | (refine reg_read (by rfl) (fun K hK => ?_); go_simp; refine hK _ _ ?_; clear hK K))
        refine reg_nil (fun nd => ?_)
        have m14 := y2.undrew.trans y5.undrew
        have T14 := Lib.hid (T12.out.new m14)
        have M14 := Lib.hid (M12.out.trans m14)
        clear y1 y2 y3 y4 y5 y6 m14 T12 M12 B12
        go_wp2_with fail
        refine (bitsBytes _ _ _ _ _ ((T14.out.b.mod ((Mod.refl (fun _ => False) w14).drewN nd) (fun h => h) (fun h => h))).toBRaw).mono ?_; rintro e w15 ⟨rfl, z15, n15, zz⟩; clear zz
        have m15 := ((Mod.refl (fun _ => False) w14).drewN nd).trans n15
        obtain ⟨g15, hg15⟩ : ∃ g, g = (w14.drewN nd).heap.size := ⟨_, rfl⟩
        rw [← hg15] at z15 ⊢
        have a15 := (Mod.refl (fun _ => False) w15).alloc (.cells #[.slice (some ⟨g15, 0, none⟩) ((n + 7) / 8) ((n + 7) / 8)] 37)
        have b15 : BS w15 (.slice (some ⟨g15, 0, none⟩) ((n + 7) / 8) ((n + 7) / 8)) (bytesOf f6 n) := ⟨by rw [len_bytesOf]; exact z15, fun _ _ _ e => by cases e; exact Nat.le_refl _⟩
        have HCO := Lib.hid (tjCompact ((T14.out.new m15).new a15) HQ.out.1 HQ.out.2.1 (Blk.new w15 _ _) (b15.new a15))
        have M15 := Lib.hid ((M14.out.trans m15).trans a15)
        obtain ⟨k15, hk15⟩ : ∃ k, k = (n + 7) / 8 := ⟨_, rfl⟩
        rw [← hk15] at HCO M15 ⊢
        clear z15 n15 m15 a15 b15 T14 M14 hg15 hk15
        go_wp2_with fail
        refine HCO.out.mono ?_; rintro e w16 ⟨rfl, t16, c16⟩
        have T16 := Lib.hid t16
        have M16 : Hid (Mod (fun _ => False) w w16) := M15.out.new c16 (fun i e => e.1)
        clear t16 c16 HCO M15
        go_wp2_with fail
        exact ⟨⟨j', i + 1, f6, _, rfl, by first | rfl | go_num, by omega, T16, M16⟩, by simp [intOf]; omega⟩
    · have hlt2 : ¬ (i : Int) < len1 := by omega
      go_wp2_with fail
      go_ret
      exact ⟨rfl, hm.out⟩
end Go.Proofs.Ytdlplablojdjlaa
