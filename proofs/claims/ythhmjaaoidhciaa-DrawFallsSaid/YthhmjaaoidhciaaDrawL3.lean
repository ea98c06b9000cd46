/- The walk of the statement DrawFalls: the call returns true and turns nothing that was there; no condition. -/
import Derived.Test.YthhmjaaoidhciaaDrawL
namespace Go.Proofs.Ythhmjaaoidhciaa
open Go.RowKit

theorem i64_bd {n : Int} (h : (Lit.int .i64 n).wf = true) : -9223372036854775808 ≤ n ∧ n ≤ 9223372036854775807 := by
  simpa [Lit.wf, IntKind.min, IntKind.max, IntKind.signed, IntKind.bits] using h

set_option maxHeartbeats 1000000 in
theorem drawFalls_walk (a0 a1 a2 : Int) (w : World) (_ : (Lit.int .u64 a0).wf = true) (h1 : (Lit.int .u64 a1).wf = true) (_ : (Lit.int .i64 a2).wf = true) :
    Calls Try.prog 5 #[.int .u64 a0, .int .u64 a1, .int .i64 a2] w fun e w' => e = .returned (.bool true) ∧ Below w.heap.size w w' := by
  have hn : U64 a1 := U64.of_wf h1
  have g0 : ∀ s, decide (blw s a1 < 0) = false := fun s => by have := blw_nonneg s a1; simpa using this
  have hz : (a1 == 0) = true ∧ decide (0 < a1) = false ∧ (∀ s, (blw s a1 != 0) = false) ∧ (∀ s, decide (blw s a1 < a1) = false) ∨ (a1 == 0) = false ∧ decide (0 < a1) = true ∧ (∀ s, decide (blw s a1 < a1) = true) ∧ ∀ s, decide (a1 ≤ blw s a1) = false := by
    by_cases hz : a1 = 0
    · left
      subst hz
      exact ⟨rfl, rfl, fun s => by rw [blw_zero]; rfl, fun s => by rw [blw_zero]; rfl⟩
    · right
      have hp : 0 < a1 := by unfold U64 at hn; omega
      exact ⟨by simpa using hz, by simpa using hp, fun s => by simpa using blw_lt s hp, fun s => by simpa using blw_lt s hp⟩
  clear h1
  rcases hz with ⟨hz1, hz2, hz3, hz4⟩ | ⟨hz1, hz2, hz3, hz4⟩
  all_goals
    go_enter Try.func5, Try.ntmps5
    go_wp2_with fail
    refine (awake10 _).mono ?_; rintro e w1 ⟨rfl, hb1⟩
    go_wp2_with fail
    refine (drawNew _ _).mono ?_; rintro e w' ⟨rfl, rfl⟩
    go_wp2_with fail
    have hs1 := hb1.size
    go_loopw [9] (fun i wr => ∃ k : Nat, ∃ s : Int, i = .int .i64 k ∧ k ≤ 100 ∧ wr.cell? ⟨w1.heap.size, 0, none⟩ = some (.int .u64 s) ∧ wr.frozen? ⟨w1.heap.size, 0, none⟩ = false ∧ Below w.heap.size w wr) (fun i _ => 100 - (intOf i).toNat)
    case atStart => exact ⟨0, a0, rfl, by omega, by simp, by simp, hb1.alloc hs1 _⟩
    case round =>
      obtain ⟨k, s, rfl, hk, hc, hf, hb⟩ := hrel
      go_wp2_with fail
      · refine (drawBelow s _ _ _ hc hf hn).mono ?_; rintro e w' ⟨rfl, rfl⟩
        have hk1 : (k : Int) < 100 := by assumption
        have hz3a := hz3 s
        have hz4a := hz4 (stp (stp s))
        have g0a := g0 (stp s)
        go_wp2_with fail
        refine (drawChance (stp s) _ _ _ _ (by go_simp) (by go_simp) hn).mono ?_; rintro e w' ⟨rfl, rfl⟩
        go_wp2_with fail
        refine (drawChance (stp (stp s)) _ _ _ _ (by go_simp) (by go_simp) hn).mono ?_; rintro e w' ⟨rfl, rfl⟩
        go_wp2_with fail
        go_roundw
        case rel => exact ⟨k + 1, stp (stp (stp s)), by go_num, by omega, World.cell?_setCell_same' _ _ _ (by go_simp), by go_simp, ((hb.setCell hs1 _).setCell hs1 _).setCell hs1 _⟩
        case measure => simp [intOf]; omega
      · go_ret
        exact ⟨rfl, hb⟩
      · go_ret
        exact ⟨rfl, hb⟩

end Go.Proofs.Ythhmjaaoidhciaa
