/- Package bits: how many ones; no condition. -/
import Derived.Test.YtegmgflplhpacaaDoorBitsA
import Derived.Test.YtegmgflplhpacaaDoorPop
namespace Go.Proofs.YtegmgflplhpacaaDoor
open Go Go.RowKit Go.IntWalk
set_option maxHeartbeats 400000 in
theorem onesAny (h : Nat → Bool) (x : Nat) (hx : x = pk h 64) (w : World) : Calls Tryd.prog 47 #[.int .u64 x] w fun e w' => e = .returned (.int .i64 (cnt h 64 : Nat)) ∧ w = w' := by
  obtain ⟨x1, x2, x3, x4, x5, x6, e1, e2, e3, e4, e5, e6, e7⟩ := pop_steps h
  rw [← hx] at e1
  clear hx
  have E7 := Lib.hid e7
  clear e7
  go_enter Tryd.func47, Tryd.ntmps47
  go_wp2_with fail
  go_ret
  exact ⟨congrArg (fun v => Ending.returned (.int .i64 v)) (by rw [← i64_left, E7.out]), rfl⟩

theorem cnt_words (f : Nat → Bool) (k : Nat) : cnt f (64 * (k + 1)) = cnt f (64 * k) + cnt (fun j => f (64 * k + j)) 64 := by
  rw [show 64 * (k + 1) = 64 * k + 64 by omega, cnt_add]

set_option maxHeartbeats 400000 in
theorem bitsCount (b g n : Nat) (f : Nat → Bool) (w : World) (h : BSet w b g n f) :
    Calls Tryd.prog 27 #[.pointer (some ⟨b, 0, none⟩)] w fun e w' => e = .returned (.int .i64 (cnt f n : Nat)) ∧ w = w' := by
  obtain ⟨c, d3⟩ := h.s1
  have hsm := h.small
  have H := Lib.hid h
  clear h
  obtain ⟨m, hm⟩ : ∃ m, m = (n + 63) / 64 := ⟨_, rfl⟩
  have hm9 : m ≤ 1024 := by omega
  have HM := Lib.hid hm
  rw [← hm] at d3
  clear hm hsm
  go_enter Tryd.func27, Tryd.ntmps27
  go_wp2_with fail
  go_loopw [3, 11] (fun s i wr => ∃ k : Nat, k ≤ m ∧ i = .int .i64 k ∧ s = .int .i64 (cnt f (64 * k) : Nat) ∧ wr = w) (fun _ i _ => m - (intOf i).toNat)
  case atStart => exact ⟨0, by omega, rfl, rfl, rfl⟩
  case round =>
    obtain ⟨k, hk, rfl, rfl, rfl⟩ := hrel
    by_cases hlt : k < m
    · obtain ⟨d1, _⟩ := H.out.word (k := k) (by rw [← HM.out]; exact hlt)
      have hc := cnt_words f k
      have hc2 := cnt_le (fun j => f (64 * k + j)) 64
      have hc3 := cnt_le f (64 * k)
      obtain ⟨W, hW⟩ : ∃ W, W = wd f k := ⟨_, rfl⟩
      rw [← hW] at d1
      obtain ⟨c1, hc1⟩ : ∃ c1, c1 = cnt f (64 * k) := ⟨_, rfl⟩
      obtain ⟨c2, hc2'⟩ : ∃ c2, c2 = cnt (fun j => f (64 * k + j)) 64 := ⟨_, rfl⟩
      rw [← hc1] at hc3 hc ⊢
      rw [← hc2'] at hc hc2
      have HC := Lib.hid hc
      have HW := Lib.hid hW
      have HC2 := Lib.hid hc2'
      clear hc hW hc1 hc2'
      go_wp2_with fail
      refine (onesAny (fun j => f (64 * k + j)) W (by rw [HW.out]; rfl) _).mono ?_; rintro e w' ⟨rfl, rfl⟩
      rw [← HC2.out]
      go_wp2_with fail
      exact ⟨⟨k + 1, by omega, by go_num, by rw [HC.out]; simp, trivial⟩, by simp [intOf]; omega⟩
    · have hkm : k = m := by omega
      have e : cnt f (64 * k) = cnt f n := cnt_out H.out.out _ (by rw [hkm, HM.out]; omega)
      rw [e]
      clear e hkm
      go_wp2_with fail
      go_ret
      exact ⟨rfl, rfl⟩
end Go.Proofs.YtegmgflplhpacaaDoor
