/- The walks of the statements DrawChances, DrawApart: each call returns true and turns nothing that was there; no condition. -/
import Derived.Test.YthhmjaaoidhciaaDrawA
import Derived.Test.YthhmjaaoidhciaaStage
import Derived.BigQuiet
import Derived.Deep.QuietTactic
import Derived.Deep.RegionWith
namespace Go.Proofs.Ythhmjaaoidhciaa
open Go.RowKit

theorem nx0 : (nx 0 == 16294208416658607535) = true := by decide +kernel
set_option maxHeartbeats 400000 in
theorem awake10 (w : World) :
    Calls Try.prog 10 #[] w fun e w' => e = .returned (.bool true) ∧ Below w.heap.size w w' := by
  have hn := nx0
  go_enter Try.func10, Try.ntmps10
  go_wp2_with (first | (go_at_call 11; refine (drawNew _ _).mono ?_; rintro e w' ⟨rfl, rfl⟩) | (go_at_call 12; refine (drawNext 0 _ _ (by simp) (by simp)).mono ?_; rintro e w' ⟨rfl, rfl⟩))
  go_ret
  exact ⟨rfl, (Below.refl _ _).alloc (Nat.le_refl _) _⟩

set_option maxHeartbeats 1000000 in
theorem drawChances_walk (a0 a1 a2 : Int) (w : World) (_ : (Lit.int .u64 a0).wf = true) (_ : (Lit.int .u64 a1).wf = true) (h2 : (Lit.int .u64 a2).wf = true) :
    Calls Try.prog 6 #[.int .u64 a0, .int .u64 a1, .int .u64 a2] w fun e w' => e = .returned (.bool true) ∧ Below w.heap.size w w' := by
  have hn : U64 a2 := U64.of_wf h2
  clear h2
  go_enter Try.func6, Try.ntmps6
  go_wp2_with (first | (go_at_call 10; refine (awake10 _).mono ?_; rintro e w1 ⟨rfl, hb1⟩) | (go_at_call 11; refine (drawNew _ _).mono ?_; rintro e w' ⟨rfl, rfl⟩) | (go_at_call 17; refine (drawChance a0 _ _ _ _ (by simp) (by simp) hn).mono ?_; rintro e w' ⟨rfl, rfl⟩))
  refine wp_region_stages0 [0, 0, 0, 0, 2, 0, 0, 0, 1, 0, 0, 0, 1, 0, 0, 0] (by kernel_rfl) (by kernel_rfl) ?_
  repeat (first | (refine stage_any (fun K hK => ?_); go_simp; refine hK _ _ ?_; clear hK K) | (refine stage_pin (fun K hK => ?_); go_simp; refine hK _ _ ?_; clear hK K))
  refine stage_eff (fun K hK => ?_); go_simp
  apply eff_draws
  · intro n
    refine (refChance a0 _ _ _ _ (by go_simp) (by go_simp) hn).mono ?_
    rintro e w' ⟨rfl, rfl⟩
    exact ⟨rfl, n, setCell_drewN _ _ _ _⟩
  refine hK _ _ ?_; clear hK K
  repeat (first | (refine stage_any (fun K hK => ?_); go_simp; refine hK _ _ ?_; clear hK K) | (refine stage_pin (fun K hK => ?_); go_simp; refine hK _ _ ?_; clear hK K))
  refine stage_pin (fun K hK => ?_); go_simp
  apply pin_draws
  · intro n
    refine (drawState (stp a0) _ _ (by go_simp)).mono ?_
    rintro e w' ⟨rfl, rfl⟩
    exact ⟨rfl, 0, rfl⟩
  refine hK _ _ ?_; clear hK K
  repeat (first | (refine stage_any (fun K hK => ?_); go_simp; refine hK _ _ ?_; clear hK K) | (refine stage_pin (fun K hK => ?_); go_simp; refine hK _ _ ?_; clear hK K))
  refine stage_nil ?_
  rintro _ ⟨nd, rfl⟩
  go_wp2_with fail
  go_ret
  exact ⟨rfl, below_drewN ((hb1.alloc hb1.size _).alloc (by have := hb1.size; simp; omega) _) _⟩
end Go.Proofs.Ythhmjaaoidhciaa
