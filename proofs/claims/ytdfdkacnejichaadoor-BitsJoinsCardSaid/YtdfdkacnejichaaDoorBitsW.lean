/- awake of the laws on bits; no condition. -/
import Derived.Test.YtdfdkacnejichaaDoorBitsS
namespace Go.Proofs.YtdfdkacnejichaaDoor
open Go Go.RowKit

set_option maxHeartbeats 400000 in
theorem ones513 (w : World) : Calls Tryd.prog 33 #[.int .u64 513] w fun e w' => e = .returned (.int .i64 2) ∧ w = w' := by
  go_enter Tryd.func33, Tryd.ntmps33
  go_wp2_with fail
  go_ret
  exact ⟨by kernel_rfl, rfl⟩

/-- The set that awake makes. -/
def f10 : Nat → Bool := fil (fil (fun _ => false) 0 1 true) 9 10 true
theorem f10_wd : wd f10 0 = 513 := by decide
theorem f10_bytes : bytesOf f10 10 = [1, 2] := by decide

set_option maxHeartbeats 400000 in
theorem count10 (b g : Nat) (w : World) (h : BSet w b g 10 f10) :
    Calls Tryd.prog 15 #[.pointer (some ⟨b, 0, none⟩)] w fun e w' => e = .returned (.int .i64 2) ∧ w = w' := by
  obtain ⟨c, d3⟩ := h.s1
  obtain ⟨d1, _⟩ := h.word (k := 0) (by decide)
  rw [f10_wd] at d1
  clear h
  go_enter Tryd.func15, Tryd.ntmps15
  go_wp2_with fail
  go_loopw [3, 11] (fun s i wr => ∃ k : Nat, k ≤ 1 ∧ i = .int .i64 k ∧ s = .int .i64 (2 * k) ∧ wr = w) (fun _ i _ => 1 - (intOf i).toNat)
  case atStart => exact ⟨0, by omega, rfl, rfl, rfl⟩
  case round =>
    obtain ⟨k, hk, rfl, rfl, rfl⟩ := hrel
    rcases (show k = 0 ∨ k = 1 by omega) with rfl | rfl
    · go_wp2_with fail
      refine (ones513 _).mono ?_; rintro e w' ⟨rfl, rfl⟩
      go_wp2_with fail
      go_roundw
      case rel => exact ⟨1, by omega, rfl, rfl, trivial⟩
      case measure => simp [intOf]
    · go_wp2_with fail
      go_ret
      exact ⟨rfl, rfl⟩

set_option maxHeartbeats 400000 in
theorem awake02 (w : World) :
    Calls Tryd.prog 11 #[] w fun e w' => e = .returned (.bool true) ∧ Mod (fun _ => False) w w' := by
  go_enter Tryd.func11, Tryd.ntmps11
  go_wp2_with fail
  refine (bitsNew 10 _ (by decide)).mono ?_; rintro e w1 ⟨rfl, h1, m1⟩
  have hz := h1.lt
  go_wp2_with fail
  refine (bitsPut _ _ _ _ 0 true _ h1 (by decide)).mono ?_; rintro e w2 ⟨rfl, h2, m2⟩
  go_wp2_with fail
  refine (bitsPut _ _ _ _ 9 true _ h2 (by decide)).mono ?_; rintro e w3 ⟨rfl, h3, m3⟩
  have h10 : BSet w3 (w.heap.size + 1) w.heap.size 10 f10 := h3
  go_wp2_with fail
  refine (bitsBytes _ _ _ _ _ h10.toBRaw).mono ?_; rintro e w4 ⟨rfl, s4, m4, _⟩
  have h4 := h10.mod m4 (fun h => h) (fun h => h)
  rw [f10_bytes] at s4
  have hcv := str_conv (P := Tryd.prog) w4 36 9 5 (by kernel_rfl) (by kernel_rfl) (by kernel_rfl) _ _ _ s4
  rw [show strOf [1, 2] = ⟨#[1, 2]⟩ from rfl] at hcv
  have hmm : Mod (fun _ => False) w w4 := by
    exact (((m1.new m2 (by intro i hi; omega)).new m3 (by intro i hi; omega)).trans m4)
  clear h1 h2 h3 s4 m1 m2 m3 m4
  go_wp2_with fail
  refine (count10 _ _ _ h4).mono ?_; rintro e w' ⟨rfl, rfl⟩
  go_wp2_with fail
  go_ret
  exact ⟨rfl, hmm⟩
end Go.Proofs.YtdfdkacnejichaaDoor
