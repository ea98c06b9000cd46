/- What the numbers of package draw, and of its reference, are: the contracts of New, Next, State, Below, Chance on both sides; no condition. -/
import Derived.Test.YtegmgflplhpacaaDoorRows
import Derived.Test.YtegmgflplhpacaaDoorShelf
import Derived.Test.YtegmgflplhpacaaDoorDrawM
import Derived.WalkKit
import Derived.WalkSpells
import Derived.WalkLawsBesides
import Derived.Lib.Hide
namespace Go.Proofs.YtegmgflplhpacaaDoor
open Go.RowKit

set_option maxHeartbeats 400000 in
theorem drawNew (s : Int) (w : World) :
    Calls Tryd.prog 36 #[.int .u64 s] w fun e w' => e = .returned (.pointer (some ⟨w.heap.size, 0, none⟩)) ∧ w.alloc (.cells #[.int .u64 s] 97) = w' := by
  go_enter Tryd.func36, Tryd.ntmps36
  go_wp2
  go_ret
  exact ⟨rfl, rfl⟩

set_option maxHeartbeats 400000 in
theorem drawNext (s : Int) (b : Nat) (w : World) (hc : w.cell? ⟨b, 0, none⟩ = some (.int .u64 s)) (hf : w.frozen? ⟨b, 0, none⟩ = false) :
    Calls Tryd.prog 54 #[.pointer (some ⟨b, 0, none⟩)] w fun e w' => e = .returned (.int .u64 (nxD s)) ∧ w.setCell ⟨b, 0, none⟩ (.int .u64 (stp s)) = w' := by
  go_enter Tryd.func54, Tryd.ntmps54
  go_wp2
  go_ret
  exact ⟨rfl, rfl⟩


theorem mul64 (x y : Int) (w : World) (hx : U64 x) (hy : U64 y) :
    Calls Tryd.prog 53 #[.int .u64 x, .int .u64 y] w fun e w' => ∃ lo, e = .returned (.tuple #[.int .u64 (hi64 x y), .int .u64 lo]) ∧ w = w' := by
  obtain ⟨h1, h2⟩ := hx
  obtain ⟨h3, h4⟩ := hy
  have h := Tryd.bits_Mul64 x.toNat y.toNat (by omega) (by omega) w
  rw [Int.toNat_of_nonneg h1, Int.toNat_of_nonneg h3] at h
  exact h.mono fun e w' ⟨he, hw⟩ => ⟨_, he, hw.symm⟩

set_option maxHeartbeats 400000 in
theorem drawBelow (s n : Int) (b : Nat) (w : World) (hc : w.cell? ⟨b, 0, none⟩ = some (.int .u64 s)) (hf : w.frozen? ⟨b, 0, none⟩ = false) (hn : U64 n) :
    Calls Tryd.prog 37 #[.pointer (some ⟨b, 0, none⟩), .int .u64 n] w fun e w' => e = .returned (.int .u64 (blw s n)) ∧ w.setCell ⟨b, 0, none⟩ (.int .u64 (stp s)) = w' := by
  go_enter Tryd.func37, Tryd.ntmps37
  go_wp2_with (first | (go_at_call 54; refine (drawNext _ _ _ hc hf).mono ?_; rintro e w' ⟨rfl, rfl⟩) | (go_at_call 53; refine (mul64 _ _ _ (nxD_u _) hn).mono ?_; rintro e w' ⟨lo, rfl, rfl⟩))
  go_ret
  exact ⟨rfl, rfl⟩


set_option maxHeartbeats 400000 in
theorem refMix (s : Int) (w : World) :
    Calls Tryd.prog 66 #[.int .u64 s] w fun e w' => e = .returned (.int .u64 (mix s)) ∧ w = w' := by
  go_enter Tryd.func66, Tryd.ntmps66
  go_wp2
  go_ret
  exact ⟨rfl, rfl⟩

set_option maxHeartbeats 400000 in
theorem refNext (s : Int) (b : Nat) (w : World) (hc : w.cell? ⟨b, 0, none⟩ = some (.int .u64 s)) (hf : w.frozen? ⟨b, 0, none⟩ = false) :
    Calls Tryd.prog 62 #[.pointer (some ⟨b, 0, none⟩)] w fun e w' => e = .returned (.int .u64 (nxD s)) ∧ w.setCell ⟨b, 0, none⟩ (.int .u64 (stp s)) = w' := by
  go_enter Tryd.func62, Tryd.ntmps62
  go_wp2_with (first | (go_at_call 66; refine (refMix _ _).mono ?_; rintro e w' ⟨rfl, rfl⟩))
  go_ret
  exact ⟨rfl, rfl⟩

set_option maxHeartbeats 400000 in
theorem refBelow (s n : Int) (b : Nat) (w : World) (hc : w.cell? ⟨b, 0, none⟩ = some (.int .u64 s)) (hf : w.frozen? ⟨b, 0, none⟩ = false) (hn : U64 n) :
    Calls Tryd.prog 56 #[.pointer (some ⟨b, 0, none⟩), .int .u64 n] w fun e w' => e = .returned (.int .u64 (blw s n)) ∧ w.setCell ⟨b, 0, none⟩ (.int .u64 (stp s)) = w' := by
  go_enter Tryd.func56, Tryd.ntmps56
  go_wp2_with (first | (go_at_call 62; refine (refNext _ _ _ hc hf).mono ?_; rintro e w' ⟨rfl, rfl⟩))
  go_ret
  exact ⟨congrArg (fun x => Ending.returned (.int .u64 x)) (refB_eq (nxD_u s) hn), rfl⟩


end Go.Proofs.YtegmgflplhpacaaDoor
