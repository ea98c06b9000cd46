/- Shuffle and Sample of the reference: what they hand back, and what they leave of memory; for every list whose numbers take at most 2^47 bytes. -/
import Derived.Test.YtagiodagbfahpaaDaS
import Derived.Test.YtagiodagbfahpaaMb0
namespace Go.Proofs.Ytagiodagbfahpaa
open Go.RowKit

theorem ints_oneCell' (l : List Int) : ∀ u ∈ ints l, u.oneCell' = true := by intro u hu; obtain ⟨x, _, rfl⟩ := List.mem_map.1 hu; rfl

set_option maxHeartbeats 1000000 in
theorem refShuffle (v : Value) (xs : List Int) (s : Int) (b : Nat) (w : World) (h : Sl w v 1 xs.length (ints xs)) (hbig : xs.length * 8 ≤ 140737488355328)
    (hc : w.cell? ⟨b, 0, none⟩ = some (.int .u64 s)) (hf : w.frozen? ⟨b, 0, none⟩ = false) :
    Calls Try.prog 70 #[.pointer (some ⟨b, 0, none⟩), v] w fun e w' => ∃ v', e = .returned v' ∧
      w'.ownsRow w.heap.size 3 1 v' xs.length (ints (shuffled s xs)) ∧ w'.cell? ⟨b, 0, none⟩ = some (.int .u64 (shufSt s xs)) ∧ w'.frozen? ⟨b, 0, none⟩ = false ∧ Mod (· = b) w w' := by
  obtain ⟨n, hn⟩ : ∃ n, n = xs.length := ⟨_, rfl⟩
  have HN : Hid (n = xs.length) := hn
  rw [← hn] at hbig h ⊢
  have H := Lib.hid h
  clear hn h
  obtain ⟨i0, hi, hz0, hz1, hz2⟩ := info_parts infoInt
  have hbl : b < w.heap.size := World.block_lt_of_cell? w _ hc
  go_enter Try.func70, Try.ntmps70
  go_wp2_with (at_builtin; refine wpList_append_sl rfl (.tmp 9) (.tmp 10) 41 rfl w.heap.size 3 i0 (.int .i64 0) 1 8 Try.underlying41 hi hz0 hz1 hz2 rfl (by decide) _ _ _ rfl (World.ownsRow_made w #[] 0 (Nat.le_refl _) (Nat.zero_le _) rfl) v n (ints xs) rfl ?q1 (ints_oneCell' _) ?q2 (by decide) ?q3 ?_)
  case q1 => exact H.out.alloc _
  case q2 => omega
  case q3 => simp
  intro v' w1 ho hgrow
  have hm1 : Mod (· = b) w w1 := ((Mod.refl _ w).alloc _).grown hgrow (by intro k hk; simp [Value.ownBlock] at hk; omega)
  have hc1 : w1.cell? ⟨b, 0, none⟩ = some (.int .u64 s) := hgrow.cell (by rw [World.cell?_alloc_lt _ _ _ hbl]; exact hc) (by simp [Value.ownBlock]; omega)
  have hf1 : w1.frozen? ⟨b, 0, none⟩ = false := (World.frozen?_of_block (a := ⟨b, 0, none⟩) (hgrow.block b (by simp; omega) (by simp [Value.ownBlock]; omega))).trans ((World.frozen?_alloc_old w _ ⟨b, 0, none⟩ (Nat.ne_of_lt hbl)).trans hf)
  clear hc hf hgrow H hi hz0 hz1 hz2
  rcases ho.2 with ⟨rfl, h0⟩ | ⟨g, cap, cur, rfl, hg, hgh, hrest⟩
  · subst h0
    have hx : xs = [] := List.length_eq_zero_iff.1 HN.out.symm
    go_wp2_with fail
    refine wp_loop_rounds 1 ?_; rw [rounds_succ]
    go_wp2_with fail
    go_ret
    subst hx
    exact ⟨_, rfl, ho, hc1, hf1, hm1⟩
  · have hgl : g < w1.heap.size := (Array.getElem?_eq_some_iff.1 hgh).1
    clear hrest
    go_wp2_with fail
    go_loopw [6] (fun i wr => ∃ m s' l', i = .int .i64 m ∧ -1 ≤ m ∧ m < n ∧ l'.length = n ∧ shuf m.toNat s' l' = shuf (n - 1) s xs ∧ wr.ownsRow w.heap.size 3 1 (.slice (some ⟨g, 0, none⟩) n cap) n (ints l') ∧
      wr.cell? ⟨b, 0, none⟩ = some (.int .u64 s') ∧ wr.frozen? ⟨b, 0, none⟩ = false ∧ Mod (· = b) w wr) (fun i _ => (intOf i).toNat)
    case atStart => exact ⟨(n : Int) - 1, s, xs, rfl, by omega, by omega, HN.out.symm, by rw [show ((n : Int) - 1).toNat = n - 1 from by omega], ho, hc1, hf1, hm1⟩
    case round =>
      obtain ⟨m, s', l', rfl, hm0, hmn, hl, hsh, hor, hcr, hfr, hmr⟩ := hrel
      clear hc1 hf1 ho hgh
      by_cases hlt : 0 < m
      · obtain ⟨M, rfl⟩ : ∃ M : Nat, m = (M : Int) := ⟨m.toNat, by omega⟩
        have hM : 0 < M := by omega
        obtain ⟨k, hk, hkb⟩ := blw_ex s' M
        have HS : Hid (shuf (M - 1) (stp s') (swp l' M k) = shuf (n - 1) s xs) := by
          rw [← hsh, Int.toNat_natCast, shuf_step M s' l' hM, hk, Int.toNat_natCast]; rfl
        have HL : Hid (l'.length = n) := hl
        have bel := refBelow s' ((M : Int) + 1) b wr hcr hfr (u64_succ hmn hbig)
        rw [hk] at bel
        have BEL := Lib.hid bel
        clear hsh hl bel hk
        go_wp2_with fail
        refine BEL.out.mono ?_; rintro e w2 ⟨rfl, hw2⟩
        have hor2 : w2.ownsRow w.heap.size 3 1 (.slice (some ⟨g, 0, none⟩) n cap) n (ints l') := by subst hw2; exact ownsRow_setCell_below hor hbl _
        have hc2 : w2.cell? ⟨b, 0, none⟩ = some (.int .u64 (stp s')) := by subst hw2; exact World.cell?_setCell_same' _ _ _ (by rw [hcr]; rfl)
        have hf2 : w2.frozen? ⟨b, 0, none⟩ = false := by subst hw2; simpa using hfr
        have hm2 : Mod (· = b) w w2 := by subst hw2; exact hmr.setCell (.inl rfl) _
        clear hw2 hor hcr hfr hmr BEL
        obtain ⟨A, hA⟩ : ∃ A, A = l'.getD M 0 := ⟨_, rfl⟩
        obtain ⟨B, hB⟩ : ∃ B, B = l'.getD k 0 := ⟨_, rfl⟩
        have cA : w2.cell? ⟨g, M, none⟩ = some (.int .i64 A) := by
          rw [hor2.cellAt M (by omega), hA, List.getD_eq_getElem?_getD, List.getElem?_map, List.getElem?_eq_getElem (by have := HL.out; omega)]; rfl
        have cB : w2.cell? ⟨g, k, none⟩ = some (.int .i64 B) := by
          rw [hor2.cellAt k (by omega), hB, List.getD_eq_getElem?_getD, List.getElem?_map, List.getElem?_eq_getElem (by have := HL.out; omega)]; rfl
        obtain ⟨v2, cB2⟩ := Go.RowKit.cell?_setCell_some (w := w2) (p := ⟨g, M, none⟩) (x := Value.int .i64 B) cB
        have fA : w2.frozen? ⟨g, M, none⟩ = false := hor2.frozenAt M
        have fB : w2.frozen? ⟨g, k, none⟩ = false := hor2.frozenAt k
        have hki : (k : Int) < n := by omega
        have hMi : (M : Int) < n := by omega
        have HA := Lib.hid hA
        have HB := Lib.hid hB
        have HO := Lib.hid hor2
        clear hA hB hor2
        go_wp2_with fail
        have HO3 : Hid (((w2.setCell ⟨g, M, none⟩ (.int .i64 B)).setCell ⟨g, k, none⟩ (.int .i64 A)).ownsRow w.heap.size 3 1 (.slice (some ⟨g, 0, none⟩) n cap) n (ints (swp l' M k))) := by
          have h := owns_swp HO.out M k
          rw [← HA.out, ← HB.out] at h
          exact h
        have hgb : g ≠ b := by omega
        go_roundw
        case rel =>
          exact ⟨(M : Int) - 1, stp s', swp l' M k, rfl, by omega, by omega, by rw [swp_len]; exact HL.out, by rw [show ((M : Int) - 1).toNat = M - 1 from by omega]; exact HS.out, HO3.out,
            by go_simp, by go_simp, (hm2.setCell (.inr hg) _).setCell (.inr hg) _⟩
        case measure => simp [intOf]; omega
      · go_wp2_with fail
        go_ret
        have hm : m.toNat = 0 := by omega
        rw [hm] at hsh
        have e1 : shuffled s xs = l' := by unfold shuffled; rw [← HN.out, ← hsh]; rfl
        have e2 : shufSt s xs = s' := by unfold shufSt; rw [← HN.out, ← hsh]; rfl
        rw [e1, e2]
        exact ⟨_, rfl, hor, hcr, hfr, hmr⟩
end Go.Proofs.Ytagiodagbfahpaa
