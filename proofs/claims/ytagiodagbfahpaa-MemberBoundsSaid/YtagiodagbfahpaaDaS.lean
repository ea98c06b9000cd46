/- Shuffle and Sample of package draw: what they hand back, and what they leave of memory; for every list whose numbers take at most 2^47 bytes. -/
import Derived.Test.YtagiodagbfahpaaDaA
import Derived.Test.YtagiodagbfahpaaStage
import Derived.Test.YtagiodagbfahpaaKit
import Derived.Test.YtagiodagbfahpaaShufM
namespace Go.Proofs.Ytagiodagbfahpaa
open Go.RowKit

/-- The numbers as cells. -/
abbrev ints (l : List Int) : List Value := l.map (Value.int .i64)

theorem cloneInts (v : Value) (xs : List Int) (w : World) (h : Sl w v 1 xs.length (ints xs)) (hbig : xs.length * 8 ≤ 140737488355328) :
    Calls Try.prog 69 #[v] w fun e w' => ∃ v', e = .returned v' ∧ w'.ownsRow w.heap.size 3 1 v' xs.length (ints xs) ∧ Below w.heap.size w w' := by
  rcases h with ⟨rfl, hx, _⟩ | ⟨x, c, rfl, _, hc⟩
  · obtain rfl : xs = [] := List.length_eq_zero_iff.1 hx
    exact (Try.slices_Clone_int_nil 0 0 w).mono fun e w' ⟨he, hw⟩ => ⟨_, he, by subst hw; exact World.ownsRow_nil _ _ _ _, by subst hw; exact Below.refl _ _⟩
  · cases hn : xs with
    | nil =>
      exact (Try.slices_Clone_int_zero x c w).mono fun e w' ⟨v', he, ho, _, hb⟩ => ⟨v', he, ho, hb⟩
    | cons z zs =>
      have hl : 0 < xs.length := by rw [hn]; simp
      rw [← hn]
      have h0 := hc 0 (.int .i64 (xs[0]'hl)) (by rw [List.getElem?_map, List.getElem?_eq_getElem hl]; rfl)
      obtain ⟨b, off, sp⟩ := x
      have hs : sp = none := by
        cases sp with
        | none => rfl
        | some s =>
          simp [Addr.add, World.cell?] at h0
          split at h0 <;> simp at h0
      subst hs
      refine (Try.slices_Clone_int b off xs.length c xs w (Nat.le_refl _) hbig (fun j hj => ?_)).mono fun e w' ⟨v', he, ho, _, hb⟩ => ⟨v', he, by rw [List.take_length] at ho; exact ho, hb⟩
      have h1 := hc j (.int .i64 (xs[j]'hj)) (by rw [List.getElem?_map, List.getElem?_eq_getElem hj]; rfl)
      rw [List.getD_eq_getElem?_getD, List.getElem?_eq_getElem hj, Option.getD_some, ← h1]
      unfold Addr.add
      split
      · rename_i e; subst e; rfl
      · rfl

/-- A row that the call owns, behind two stores: the exchange. -/
theorem owns_swp {w : World} {base g n cap : Nat} {l : List Int} (h : w.ownsRow base 3 1 (.slice (some ⟨g, 0, none⟩) n cap) n (ints l)) (i k : Nat) :
    ((w.setCell ⟨g, i, none⟩ (.int .i64 (l.getD k 0))).setCell ⟨g, k, none⟩ (.int .i64 (l.getD i 0))).ownsRow base 3 1 (.slice (some ⟨g, 0, none⟩) n cap) n (ints (swp l i k)) := by
  have h1 := (h.stored i (.int .i64 (l.getD k 0))).1
  have h2 := (h1.stored k (.int .i64 (l.getD i 0))).1
  have e : ints (swp l i k) = ((ints l).set i (.int .i64 (l.getD k 0))).set k (.int .i64 (l.getD i 0)) := by
    unfold swp ints
    rw [List.map_set, List.map_set]
  rw [e]
  exact h2

set_option maxHeartbeats 1000000 in
theorem drawShuffle (v : Value) (xs : List Int) (s : Int) (b : Nat) (w : World) (h : Sl w v 1 xs.length (ints xs)) (hbig : xs.length * 8 ≤ 140737488355328)
    (hc : w.cell? ⟨b, 0, none⟩ = some (.int .u64 s)) (hf : w.frozen? ⟨b, 0, none⟩ = false) :
    Calls Try.prog 54 #[.pointer (some ⟨b, 0, none⟩), v] w fun e w' => ∃ v', e = .returned v' ∧
      w'.ownsRow w.heap.size 3 1 v' xs.length (ints (shuffled s xs)) ∧ w'.cell? ⟨b, 0, none⟩ = some (.int .u64 (shufSt s xs)) ∧ w'.frozen? ⟨b, 0, none⟩ = false ∧ Mod (· = b) w w' := by
  have clone := cloneInts v xs w h hbig
  obtain ⟨n, hn⟩ : ∃ n, n = xs.length := ⟨_, rfl⟩
  have HN : Hid (n = xs.length) := hn
  rw [← hn] at hbig clone ⊢
  clear h
  have CL := Lib.hid clone
  clear hn clone
  go_enter Try.func54, Try.ntmps54
  go_wp2_with fail
  refine CL.out.mono ?_; rintro e w1 ⟨v', rfl, ho, hb⟩
  clear CL
  have hc1 : w1.cell? ⟨b, 0, none⟩ = some (.int .u64 s) := (hb.cell (p := ⟨b, 0, none⟩) (World.block_lt_of_cell? w _ hc)).trans hc
  have hf1 : w1.frozen? ⟨b, 0, none⟩ = false := (hb.frozen (p := ⟨b, 0, none⟩) (World.block_lt_of_cell? w _ hc)).trans hf
  have hbl : b < w.heap.size := World.block_lt_of_cell? w _ hc
  have hm1 : Mod (· = b) w w1 := Mod.of_below hb
  clear hc hf hb
  rcases ho.2 with ⟨rfl, h0⟩ | ⟨g, cap, cur, rfl, hg, hgh, hrest⟩
  · subst h0
    have hx : xs = [] := List.length_eq_zero_iff.1 HN.out.symm
    go_wp2_with fail
    refine wp_loop_rounds 1 ?_; rw [rounds_succ]
    go_wp2_with fail
    go_ret
    subst hx
    exact ⟨_, rfl, ho, hc1, hf1, hm1⟩
  · have hgl : g < w1.heap.size := (Array.getElem?_eq_some_iff.1 hgh).1
    clear hrest
    go_wp2_with fail
    go_loopw [6] (fun i wr => ∃ m s' l', i = .int .i64 m ∧ -1 ≤ m ∧ m < n ∧ l'.length = n ∧ shuf m.toNat s' l' = shuf (n - 1) s xs ∧ wr.ownsRow w.heap.size 3 1 (.slice (some ⟨g, 0, none⟩) n cap) n (ints l') ∧
      wr.cell? ⟨b, 0, none⟩ = some (.int .u64 s') ∧ wr.frozen? ⟨b, 0, none⟩ = false ∧ Mod (· = b) w wr) (fun i _ => (intOf i).toNat)
    case atStart => exact ⟨(n : Int) - 1, s, xs, rfl, by omega, by omega, HN.out.symm, by rw [show ((n : Int) - 1).toNat = n - 1 from by omega], ho, hc1, hf1, hm1⟩
    case round =>
      obtain ⟨m, s', l', rfl, hm0, hmn, hl, hsh, hor, hcr, hfr, hmr⟩ := hrel
      clear hc1 hf1 ho hgh
      by_cases hlt : 0 < m
      · obtain ⟨M, rfl⟩ : ∃ M : Nat, m = (M : Int) := ⟨m.toNat, by omega⟩
        have hM : 0 < M := by omega
        obtain ⟨k, hk, hkb⟩ := blw_ex s' M
        have HS : Hid (shuf (M - 1) (stp s') (swp l' M k) = shuf (n - 1) s xs) := by
          rw [← hsh, Int.toNat_natCast, shuf_step M s' l' hM, hk, Int.toNat_natCast]; rfl
        have HL : Hid (l'.length = n) := hl
        have bel := drawBelow s' ((M : Int) + 1) b wr hcr hfr (u64_succ hmn hbig)
        rw [hk] at bel
        have BEL := Lib.hid bel
        clear hsh hl bel hk
        go_wp2_with fail
        refine BEL.out.mono ?_; rintro e w2 ⟨rfl, hw2⟩
        have hor2 : w2.ownsRow w.heap.size 3 1 (.slice (some ⟨g, 0, none⟩) n cap) n (ints l') := by subst hw2; exact ownsRow_setCell_below hor hbl _
        have hc2 : w2.cell? ⟨b, 0, none⟩ = some (.int .u64 (stp s')) := by subst hw2; exact World.cell?_setCell_same' _ _ _ (by rw [hcr]; rfl)
        have hf2 : w2.frozen? ⟨b, 0, none⟩ = false := by subst hw2; simpa using hfr
        have hm2 : Mod (· = b) w w2 := by subst hw2; exact hmr.setCell (.inl rfl) _
        clear hw2 hor hcr hfr hmr BEL
        obtain ⟨A, hA⟩ : ∃ A, A = l'.getD M 0 := ⟨_, rfl⟩
        obtain ⟨B, hB⟩ : ∃ B, B = l'.getD k 0 := ⟨_, rfl⟩
        have cA : w2.cell? ⟨g, M, none⟩ = some (.int .i64 A) := by
          rw [hor2.cellAt M (by omega), hA, List.getD_eq_getElem?_getD, List.getElem?_map, List.getElem?_eq_getElem (by have := HL.out; omega)]; rfl
        have cB : w2.cell? ⟨g, k, none⟩ = some (.int .i64 B) := by
          rw [hor2.cellAt k (by omega), hB, List.getD_eq_getElem?_getD, List.getElem?_map, List.getElem?_eq_getElem (by have := HL.out; omega)]; rfl
        obtain ⟨v2, cB2⟩ := Go.RowKit.cell?_setCell_some (w := w2) (p := ⟨g, M, none⟩) (x := Value.int .i64 B) cB
        have fA : w2.frozen? ⟨g, M, none⟩ = false := hor2.frozenAt M
        have fB : w2.frozen? ⟨g, k, none⟩ = false := hor2.frozenAt k
        have hki : (k : Int) < n := by omega
        have hMi : (M : Int) < n := by omega
        have HA := Lib.hid hA
        have HB := Lib.hid hB
        have HO := Lib.hid hor2
        clear hA hB hor2
        go_wp2_with fail
        refine wp_region_stages0 [0, 0, 0, 0, 0, 0, 0, 1, 0, 0, 0, 1, 0, 2, 0, 2] (by kernel_rfl) (by kernel_rfl) ?_
        repeat (first | (refine stage_any (fun K hK => ?_); go_simp; refine hK _ _ ?_; clear hK K) | (refine stage_pin (fun K hK => ?_); go_simp; refine hK _ _ ?_; clear hK K))
        refine stage_eff (fun K hK => ?_); go_simp; refine eff_store ?_; refine hK _ _ ?_; clear hK K
        repeat (first | (refine stage_any (fun K hK => ?_); go_simp; refine hK _ _ ?_; clear hK K) | (refine stage_pin (fun K hK => ?_); go_simp; refine hK _ _ ?_; clear hK K))
        refine stage_eff (fun K hK => ?_); go_simp; refine eff_store ?_; refine hK _ _ ?_; clear hK K
        refine stage_nil ?_
        intro w3 hw3
        obtain ⟨nd, rfl⟩ := hw3
        have HO3 : Hid ((((w2.setCell ⟨g, M, none⟩ (.int .i64 B)).setCell ⟨g, k, none⟩ (.int .i64 A)).drewN nd).ownsRow w.heap.size 3 1 (.slice (some ⟨g, 0, none⟩) n cap) n (ints (swp l' M k))) := by
          have h := owns_swp HO.out M k
          rw [← HA.out, ← HB.out] at h
          exact h
        have hgb : g ≠ b := by omega
        go_wp2_with fail
        go_roundw
        case rel =>
          exact ⟨(M : Int) - 1, stp s', swp l' M k, rfl, by omega, by omega, by rw [swp_len]; exact HL.out, by rw [show ((M : Int) - 1).toNat = M - 1 from by omega]; exact HS.out, HO3.out,
            by go_simp, by go_simp, ((hm2.setCell (.inr hg) _).setCell (.inr hg) _).drewN _⟩
        case measure => simp [intOf]; omega
      · go_wp2_with fail
        go_ret
        have hm : m.toNat = 0 := by omega
        rw [hm] at hsh
        have e1 : shuffled s xs = l' := by unfold shuffled; rw [← HN.out, ← hsh]; rfl
        have e2 : shufSt s xs = s' := by unfold shufSt; rw [← HN.out, ← hsh]; rfl
        rw [e1, e2]
        exact ⟨_, rfl, hor, hcr, hfr, hmr⟩
end Go.Proofs.Ytagiodagbfahpaa
