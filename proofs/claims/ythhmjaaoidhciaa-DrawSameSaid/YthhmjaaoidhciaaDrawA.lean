/- What the numbers of package draw, and of its reference, are: the contracts of New, Next, State, Below, Chance on both sides; no condition. -/
import Derived.Test.YthhmjaaoidhciaaRows
import Derived.Test.YthhmjaaoidhciaaShelf
import Derived.Test.YthhmjaaoidhciaaDrawM
import Derived.WalkKit
import Derived.WalkSpells
import Derived.WalkLawsBesides
import Derived.Lib.Hide
namespace Go.Proofs.Ythhmjaaoidhciaa
open Go.RowKit

set_option maxHeartbeats 400000 in
theorem drawNew (s : Int) (w : World) :
    Calls Try.prog 11 #[.int .u64 s] w fun e w' => e = .returned (.pointer (some ⟨w.heap.size, 0, none⟩)) ∧ w.alloc (.cells #[.int .u64 s] 44) = w' := by
  go_enter Try.func11, Try.ntmps11
  go_wp2
  go_ret
  exact ⟨rfl, rfl⟩

set_option maxHeartbeats 400000 in
theorem drawNext (s : Int) (b : Nat) (w : World) (hc : w.cell? ⟨b, 0, none⟩ = some (.int .u64 s)) (hf : w.frozen? ⟨b, 0, none⟩ = false) :
    Calls Try.prog 12 #[.pointer (some ⟨b, 0, none⟩)] w fun e w' => e = .returned (.int .u64 (nx s)) ∧ w.setCell ⟨b, 0, none⟩ (.int .u64 (stp s)) = w' := by
  go_enter Try.func12, Try.ntmps12
  go_wp2
  go_ret
  exact ⟨rfl, rfl⟩

set_option maxHeartbeats 400000 in
theorem drawState (s : Int) (b : Nat) (w : World) (hc : w.cell? ⟨b, 0, none⟩ = some (.int .u64 s)) :
    Calls Try.prog 14 #[.pointer (some ⟨b, 0, none⟩)] w fun e w' => e = .returned (.int .u64 s) ∧ w = w' := by
  go_enter Try.func14, Try.ntmps14
  go_wp2
  go_ret
  exact ⟨rfl, rfl⟩

theorem mul64 (x y : Int) (w : World) (hx : U64 x) (hy : U64 y) :
    Calls Try.prog 25 #[.int .u64 x, .int .u64 y] w fun e w' => ∃ lo, e = .returned (.tuple #[.int .u64 (hi64 x y), .int .u64 lo]) ∧ w = w' := by
  obtain ⟨h1, h2⟩ := hx
  obtain ⟨h3, h4⟩ := hy
  have h := Try.bits_Mul64 x.toNat y.toNat (by omega) (by omega) w
  rw [Int.toNat_of_nonneg h1, Int.toNat_of_nonneg h3] at h
  exact h.mono fun e w' ⟨he, hw⟩ => ⟨_, he, hw.symm⟩

set_option maxHeartbeats 400000 in
theorem drawBelow (s n : Int) (b : Nat) (w : World) (hc : w.cell? ⟨b, 0, none⟩ = some (.int .u64 s)) (hf : w.frozen? ⟨b, 0, none⟩ = false) (hn : U64 n) :
    Calls Try.prog 15 #[.pointer (some ⟨b, 0, none⟩), .int .u64 n] w fun e w' => e = .returned (.int .u64 (blw s n)) ∧ w.setCell ⟨b, 0, none⟩ (.int .u64 (stp s)) = w' := by
  go_enter Try.func15, Try.ntmps15
  go_wp2_with (first | (go_at_call 12; refine (drawNext _ _ _ hc hf).mono ?_; rintro e w' ⟨rfl, rfl⟩) | (go_at_call 25; refine (mul64 _ _ _ (nx_u _) hn).mono ?_; rintro e w' ⟨lo, rfl, rfl⟩))
  go_ret
  exact ⟨rfl, rfl⟩

set_option maxHeartbeats 400000 in
theorem drawChance (s one n : Int) (b : Nat) (w : World) (hc : w.cell? ⟨b, 0, none⟩ = some (.int .u64 s)) (hf : w.frozen? ⟨b, 0, none⟩ = false) (hn : U64 n) :
    Calls Try.prog 17 #[.pointer (some ⟨b, 0, none⟩), .int .u64 one, .int .u64 n] w fun e w' => e = .returned (.bool (decide (blw s n < one))) ∧ w.setCell ⟨b, 0, none⟩ (.int .u64 (stp s)) = w' := by
  go_enter Try.func17, Try.ntmps17
  go_wp2_with (first | (go_at_call 15; refine (drawBelow _ _ _ _ hc hf hn).mono ?_; rintro e w' ⟨rfl, rfl⟩))
  go_ret
  exact ⟨rfl, rfl⟩

set_option maxHeartbeats 400000 in
theorem refMix (s : Int) (w : World) :
    Calls Try.prog 24 #[.int .u64 s] w fun e w' => e = .returned (.int .u64 (mix s)) ∧ w = w' := by
  go_enter Try.func24, Try.ntmps24
  go_wp2
  go_ret
  exact ⟨rfl, rfl⟩

set_option maxHeartbeats 400000 in
theorem refNext (s : Int) (b : Nat) (w : World) (hc : w.cell? ⟨b, 0, none⟩ = some (.int .u64 s)) (hf : w.frozen? ⟨b, 0, none⟩ = false) :
    Calls Try.prog 13 #[.pointer (some ⟨b, 0, none⟩)] w fun e w' => e = .returned (.int .u64 (nx s)) ∧ w.setCell ⟨b, 0, none⟩ (.int .u64 (stp s)) = w' := by
  go_enter Try.func13, Try.ntmps13
  go_wp2_with (first | (go_at_call 24; refine (refMix _ _).mono ?_; rintro e w' ⟨rfl, rfl⟩))
  go_ret
  exact ⟨rfl, rfl⟩

set_option maxHeartbeats 400000 in
theorem refBelow (s n : Int) (b : Nat) (w : World) (hc : w.cell? ⟨b, 0, none⟩ = some (.int .u64 s)) (hf : w.frozen? ⟨b, 0, none⟩ = false) (hn : U64 n) :
    Calls Try.prog 16 #[.pointer (some ⟨b, 0, none⟩), .int .u64 n] w fun e w' => e = .returned (.int .u64 (blw s n)) ∧ w.setCell ⟨b, 0, none⟩ (.int .u64 (stp s)) = w' := by
  go_enter Try.func16, Try.ntmps16
  go_wp2_with (first | (go_at_call 13; refine (refNext _ _ _ hc hf).mono ?_; rintro e w' ⟨rfl, rfl⟩))
  go_ret
  exact ⟨congrArg (fun x => Ending.returned (.int .u64 x)) (refB_eq (nx_u s) hn), rfl⟩

set_option maxHeartbeats 400000 in
theorem refChance (s one n : Int) (b : Nat) (w : World) (hc : w.cell? ⟨b, 0, none⟩ = some (.int .u64 s)) (hf : w.frozen? ⟨b, 0, none⟩ = false) (hn : U64 n) :
    Calls Try.prog 18 #[.pointer (some ⟨b, 0, none⟩), .int .u64 one, .int .u64 n] w fun e w' => e = .returned (.bool (decide (blw s n < one))) ∧ w.setCell ⟨b, 0, none⟩ (.int .u64 (stp s)) = w' := by
  go_enter Try.func18, Try.ntmps18
  go_wp2_with (first | (go_at_call 16; refine (refBelow _ _ _ _ hc hf hn).mono ?_; rintro e w' ⟨rfl, rfl⟩))
  go_ret
  exact ⟨rfl, rfl⟩

end Go.Proofs.Ythhmjaaoidhciaa
