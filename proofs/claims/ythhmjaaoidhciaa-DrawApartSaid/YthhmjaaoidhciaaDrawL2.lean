/- The walk of the statement DrawApart: the call returns true and turns nothing that was there; no condition. -/
import Derived.Test.YthhmjaaoidhciaaDrawL
namespace Go.Proofs.Ythhmjaaoidhciaa
open Go.RowKit

set_option maxHeartbeats 1000000 in
theorem drawApart_walk (a0 a1 a2 : Int) (w : World) (h0 : (Lit.int .u64 a0).wf = true) (h1 : (Lit.int .u64 a1).wf = true) (h2 : (Lit.int .u64 a2).wf = true) :
    Calls Try.prog 4 #[.int .u64 a0, .int .u64 a1, .int .u64 a2] w fun e w' => e = .returned (.bool true) ∧ Below w.heap.size w w' := by
  have u0 : U64 a0 := U64.of_wf h0
  have u1 : U64 a1 := U64.of_wf h1
  have hn : U64 a2 := U64.of_wf h2
  have hz : (a2 == 0) = true ∧ (blw (stp a0) a2 == 0) = true ∨ (a2 == 0) = false ∧ decide (blw (stp a0) a2 < a2) = true := by
    by_cases hz : a2 = 0
    · left
      subst hz
      exact ⟨rfl, by rw [blw_zero]; rfl⟩
    · right
      have := blw_lt (stp a0) (n := a2) (by unfold U64 at hn; omega)
      exact ⟨by simpa using hz, by simpa using this⟩
  have he : (nx a0 == nx a1) = (a0 == a1) := by
    by_cases e : a0 = a1
    · subst e; simp
    · have : nx a0 ≠ nx a1 := fun h => e (nx_inj u0 u1 h)
      rw [beq_eq_false_iff_ne.2 e, beq_eq_false_iff_ne.2 this]
  clear h0 h1 h2
  rcases hz with ⟨hz1, hz2⟩ | ⟨hz1, hz2⟩
  all_goals
    go_enter Try.func4, Try.ntmps4
    go_wp2_with fail
    refine (awake10 _).mono ?_; rintro e w1 ⟨rfl, hb1⟩
    go_wp2_with fail
    refine (drawNew _ _).mono ?_; rintro e w' ⟨rfl, rfl⟩
    go_wp2_with fail
    refine (drawNew _ _).mono ?_; rintro e w' ⟨rfl, rfl⟩
    go_wp2_with fail
    refine (drawNew _ _).mono ?_; rintro e w' ⟨rfl, rfl⟩
    go_wp2_with fail
    refine (drawNext a0 _ _ (by go_simp) (by go_simp)).mono ?_; rintro e w' ⟨rfl, rfl⟩
    go_wp2_with fail
    refine (drawNext a1 _ _ (by go_simp) (by go_simp)).mono ?_; rintro e w' ⟨rfl, rfl⟩
    go_wp2_with fail
    refine (drawNext a0 _ _ (by go_simp) (by go_simp)).mono ?_; rintro e w' ⟨rfl, rfl⟩
    go_wp2_with fail
    refine (drawState (stp a0) _ _ (by go_simp)).mono ?_; rintro e w' ⟨rfl, rfl⟩
    go_wp2_with fail
    refine (drawNew _ _).mono ?_; rintro e w' ⟨rfl, rfl⟩
    go_wp2_with fail
    refine (drawBelow (stp a0) _ _ _ (by go_simp) (by go_simp) hn).mono ?_; rintro e w' ⟨rfl, rfl⟩
    go_wp2_with fail
    refine (drawBelow (stp a0) _ _ _ (by go_simp) (by go_simp) hn).mono ?_; rintro e w' ⟨rfl, rfl⟩
    go_wp2_with fail
    go_ret
    exact ⟨rfl, (((hb1.alloc hb1.size _).alloc (by have := hb1.size; simp; omega) _).alloc (by have := hb1.size; simp; omega) _).alloc (by have := hb1.size; simp; omega) _⟩
end Go.Proofs.Ythhmjaaoidhciaa
