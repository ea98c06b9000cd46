/- Sample on both sides, and Same of the reference at two lists that are the same; for lists whose numbers take at most 2^47 bytes. -/
import Derived.Test.YtagiodagbfahpaaDaR
namespace Go.Proofs.Ytagiodagbfahpaa
open Go.RowKit

/-- How many of n are told, if k are asked for. -/
def smp (k : Int) (n : Nat) : Nat := (max 0 (min k (n : Int))).toNat
theorem smp_le (k : Int) (n : Nat) : smp k n ≤ n := by unfold smp; omega
theorem smp_eq (k : Int) (n : Nat) : max 0 (min k (n : Int)) = (smp k n : Int) := by unfold smp; omega

theorem owns_take {w : World} {base : Nat} {e : TypeId} {g n cap m : Nat} {l : List Int} (h : w.ownsRow base e 1 (.slice (some ⟨g, 0, none⟩) n cap) n (ints l)) (hm : m ≤ n) :
    w.ownsRow base e 1 (.slice (some ⟨g, 0, none⟩) m cap) m (ints (l.take m)) := by
  obtain ⟨h0, h1⟩ := h
  refine ⟨by simp at h0 ⊢; omega, ?_⟩
  rcases h1 with ⟨h1, _⟩ | ⟨g', cap', cur, h1, h2, h3, h4, h5, h6, h7⟩
  · simp at h1
  · simp only [Value.slice.injEq, Option.some.injEq, Addr.mk.injEq, and_true, true_and] at h1
    obtain ⟨rfl, rfl⟩ := h1
    refine .inr ⟨g, cap, cur, rfl, h2, h3, by omega, h5, h6, ?_⟩
    rw [Nat.mul_one] at h7 ⊢
    unfold ints at h7 ⊢
    rw [List.map_take, ← h7, List.take_take, Nat.min_eq_left hm]

set_option maxHeartbeats 1000000 in
theorem drawSample (v : Value) (xs : List Int) (s k : Int) (b : Nat) (w : World) (h : Sl w v 1 xs.length (ints xs)) (hbig : xs.length * 8 ≤ 140737488355328)
    (hc : w.cell? ⟨b, 0, none⟩ = some (.int .u64 s)) (hf : w.frozen? ⟨b, 0, none⟩ = false) :
    Calls Try.prog 34 #[.pointer (some ⟨b, 0, none⟩), v, .int .i64 k] w fun e w' => ∃ v', e = .returned v' ∧
      w'.ownsRow w.heap.size 3 1 v' (smp k xs.length) (ints ((shuffled s xs).take (smp k xs.length))) ∧ w'.cell? ⟨b, 0, none⟩ = some (.int .u64 (shufSt s xs)) ∧ w'.frozen? ⟨b, 0, none⟩ = false ∧ Mod (· = b) w w' := by
  have sh := drawShuffle v xs s b w h hbig hc hf
  obtain ⟨n, hn⟩ : ∃ n, n = xs.length := ⟨_, rfl⟩
  rw [← hn] at sh hbig ⊢
  have SH := Lib.hid sh
  have hmn := smp_le k n
  have hm := smp_eq k n
  generalize smp k n = m at hmn hm ⊢
  clear hn sh h hc hf
  go_enter Try.func34, Try.ntmps34
  go_wp2_with fail
  refine SH.out.mono ?_; rintro e w1 ⟨v', rfl, ho, hc1, hf1, hm1⟩
  clear SH
  have ho' := ho
  rcases ho'.2 with ⟨rfl, h0⟩ | ⟨g, cap, cur, rfl, hg, hgh, hcap, hmax, _⟩
  · subst h0
    obtain rfl : m = 0 := by omega
    clear ho'
    have hm' : max 0 (min k 0) = 0 := by omega
    go_wp2_with fail
    go_ret
    exact ⟨.slice none 0 0, rfl, ⟨rfl, .inl ⟨rfl, rfl⟩⟩, hc1, hf1, hm1⟩
  · clear ho' hgh
    have hmc : m ≤ cap := by omega
    unfold maxLen at hmax
    go_wp2_with fail
    go_ret
    exact ⟨_, rfl, owns_take ho hmn, hc1, hf1, hm1⟩

set_option maxHeartbeats 1000000 in
theorem refSample (v : Value) (xs : List Int) (s k : Int) (b : Nat) (w : World) (h : Sl w v 1 xs.length (ints xs)) (hbig : xs.length * 8 ≤ 140737488355328)
    (hc : w.cell? ⟨b, 0, none⟩ = some (.int .u64 s)) (hf : w.frozen? ⟨b, 0, none⟩ = false) :
    Calls Try.prog 59 #[.pointer (some ⟨b, 0, none⟩), v, .int .i64 k] w fun e w' => ∃ v', e = .returned v' ∧
      w'.ownsRow w.heap.size 3 1 v' (smp k xs.length) (ints ((shuffled s xs).take (smp k xs.length))) ∧ w'.cell? ⟨b, 0, none⟩ = some (.int .u64 (shufSt s xs)) ∧ w'.frozen? ⟨b, 0, none⟩ = false ∧ Mod (· = b) w w' := by
  have sh := refShuffle v xs s b w h hbig hc hf
  obtain ⟨n, hn⟩ : ∃ n, n = xs.length := ⟨_, rfl⟩
  rw [← hn] at sh hbig ⊢
  have SH := Lib.hid sh
  have hmn := smp_le k n
  have hm := smp_eq k n
  generalize smp k n = m at hmn hm ⊢
  clear hn sh h hc hf
  go_enter Try.func59, Try.ntmps59
  go_wp2_with fail
  refine SH.out.mono ?_; rintro e w1 ⟨v', rfl, ho, hc1, hf1, hm1⟩
  clear SH
  have ho' := ho
  rcases ho'.2 with ⟨rfl, h0⟩ | ⟨g, cap, cur, rfl, hg, hgh, hcap, hmax, _⟩
  · subst h0
    obtain rfl : m = 0 := by omega
    clear ho'
    have hm' : max 0 (min k 0) = 0 := by omega
    go_wp2_with fail
    go_ret
    exact ⟨.slice none 0 0, rfl, ⟨rfl, .inl ⟨rfl, rfl⟩⟩, hc1, hf1, hm1⟩
  · clear ho' hgh
    have hmc : m ≤ cap := by omega
    unfold maxLen at hmax
    go_wp2_with fail
    go_ret
    exact ⟨_, rfl, owns_take ho hmn, hc1, hf1, hm1⟩

set_option maxHeartbeats 1000000 in
theorem same10 (va vb : Value) (xs : List Int) (n : Nat) (w : World) (ha : Sl w va 1 n (ints xs)) (hb : Sl w vb 1 n (ints xs)) (hn : n ≤ 9007199254740992) :
    Calls Try.prog 38 #[va, vb] w fun e w' => e = .returned (.bool true) ∧ Draws w w' := by
  have hl := ha.len
  rw [List.length_map, Nat.mul_one] at hl
  have form : ∀ v, Sl w v 1 n (ints xs) → ∃ a c, v = .slice a n c ∧ ∀ i, i < n → ∃ x, a = some x ∧ w.cell? (x.add i) = some (.int .i64 (xs.getD i 0)) := by
    intro v h
    rcases h with ⟨rfl, rfl, _⟩ | ⟨x, c, rfl, _, h⟩
    · exact ⟨none, 0, rfl, fun i hi => by omega⟩
    · refine ⟨some x, c, rfl, fun i hi => ⟨x, rfl, h i _ ?_⟩⟩
      rw [List.getElem?_map, List.getD_eq_getElem?_getD, List.getElem?_eq_getElem (by omega)]; rfl
  obtain ⟨aa, ca, rfl, fa⟩ := form va ha
  obtain ⟨ab, cb, rfl, fb⟩ := form vb hb
  have FA := Lib.hid fa
  have FB := Lib.hid fb
  clear ha hb hl form fa fb
  go_enter Try.func38, Try.ntmps38
  go_wp2_with fail
  go_loopw [5] (fun i wr => ∃ k : Nat, i = .int .i64 k ∧ k ≤ n ∧ Draws w wr) (fun i _ => n - (intOf i).toNat)
  case atStart => exact ⟨0, rfl, by omega, 0, rfl⟩
  case round =>
    obtain ⟨k, rfl, hk, nd, rfl⟩ := hrel
    by_cases hlt : k < n
    · obtain ⟨xa, rfl, ga⟩ := FA.out k hlt
      obtain ⟨xb, rfl, gb⟩ := FB.out k hlt
      generalize xs.getD k 0 = z at ga gb
      have hlt' : (k : Int) < n := by omega
      go_wp2_with fail
      refine wp_region_stages0 [0, 0, 0, 1, 0, 0, 0, 1, 0] (by kernel_rfl) (by kernel_rfl) ?_
      repeat (first | (refine stage_any (fun K hK => ?_); go_simp; refine hK _ _ ?_; clear hK K) | (refine stage_pin (fun K hK => ?_); go_simp; refine hK _ _ ?_; clear hK K))
      refine stage_nil ?_
      rintro _ ⟨n2, rfl⟩
      go_wp2_with fail
      go_roundw
      case rel => exact ⟨k + 1, by go_num, by omega, _, rfl⟩
      case measure => simp [intOf]; omega
    · go_wp2_with fail
      go_ret
      exact ⟨rfl, nd, rfl⟩
end Go.Proofs.Ytagiodagbfahpaa
