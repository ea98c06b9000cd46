/- What the numbers of package draw, and of its reference, are: the contracts of New, Next, State, Below, Chance on both sides; no condition. -/
import Derived.Test.YtfopglaagnbacaaDoorRows
import Derived.Test.YtfopglaagnbacaaDoorShelf
import Derived.Test.YtfopglaagnbacaaDoorDrawM
import Derived.WalkKit
import Derived.WalkSpells
import Derived.WalkLawsBesides
import Derived.Lib.Hide
namespace Go.Proofs.YtfopglaagnbacaaDoor
open Go.RowKit

set_option maxHeartbeats 400000 in
theorem drawNew (s : Int) (w : World) :
    Calls Tryd.prog 8 #[.int .u64 s] w fun e w' => e = .returned (.pointer (some ⟨w.heap.size, 0, none⟩)) ∧ w.alloc (.cells #[.int .u64 s] 62) = w' := by
  go_enter Tryd.func8, Tryd.ntmps8
  go_wp2
  go_ret
  exact ⟨rfl, rfl⟩

set_option maxHeartbeats 400000 in
theorem drawNext (s : Int) (b : Nat) (w : World) (hc : w.cell? ⟨b, 0, none⟩ = some (.int .u64 s)) (hf : w.frozen? ⟨b, 0, none⟩ = false) :
    Calls Tryd.prog 10 #[.pointer (some ⟨b, 0, none⟩)] w fun e w' => e = .returned (.int .u64 (nxD s)) ∧ w.setCell ⟨b, 0, none⟩ (.int .u64 (stp s)) = w' := by
  go_enter Tryd.func10, Tryd.ntmps10
  go_wp2
  go_ret
  exact ⟨rfl, rfl⟩


theorem mul64 (x y : Int) (w : World) (hx : U64 x) (hy : U64 y) :
    Calls Tryd.prog 46 #[.int .u64 x, .int .u64 y] w fun e w' => ∃ lo, e = .returned (.tuple #[.int .u64 (hi64 x y), .int .u64 lo]) ∧ w = w' := by
  obtain ⟨h1, h2⟩ := hx
  obtain ⟨h3, h4⟩ := hy
  have h := Tryd.bits_Mul64 x.toNat y.toNat (by omega) (by omega) w
  rw [Int.toNat_of_nonneg h1, Int.toNat_of_nonneg h3] at h
  exact h.mono fun e w' ⟨he, hw⟩ => ⟨_, he, hw.symm⟩

set_option maxHeartbeats 400000 in
theorem drawBelow (s n : Int) (b : Nat) (w : World) (hc : w.cell? ⟨b, 0, none⟩ = some (.int .u64 s)) (hf : w.frozen? ⟨b, 0, none⟩ = false) (hn : U64 n) :
    Calls Tryd.prog 35 #[.pointer (some ⟨b, 0, none⟩), .int .u64 n] w fun e w' => e = .returned (.int .u64 (blw s n)) ∧ w.setCell ⟨b, 0, none⟩ (.int .u64 (stp s)) = w' := by
  go_enter Tryd.func35, Tryd.ntmps35
  go_wp2_with (first | (go_at_call 10; refine (drawNext _ _ _ hc hf).mono ?_; rintro e w' ⟨rfl, rfl⟩) | (go_at_call 46; refine (mul64 _ _ _ (nxD_u _) hn).mono ?_; rintro e w' ⟨lo, rfl, rfl⟩))
  go_ret
  exact ⟨rfl, rfl⟩






end Go.Proofs.YtfopglaagnbacaaDoor
