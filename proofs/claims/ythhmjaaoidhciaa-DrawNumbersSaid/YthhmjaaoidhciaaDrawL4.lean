/- The walk of the statement DrawNumbers: the call returns true and turns nothing that was there; no condition. -/
import Derived.Test.YthhmjaaoidhciaaDrawL
namespace Go.Proofs.Ythhmjaaoidhciaa
open Go.RowKit

/-- WHAT THE WALK IS TOLD OF A SLICE OF INTEGERS THAT CAME IN: it is nil; or it leads to a row of 'cap' cells, the numbers 'zs' (the first 'len' are its elements, the rest its spare room), each fitting its kind. -/
def IsRow (k : IntKind) (w : World) (a : Option Addr) (len cap : Nat) (zs : List Int) : Prop :=
  (a = none ∧ len = 0 ∧ cap = 0 ∧ zs = []) ∨
  ∃ x, a = some x ∧ len ≤ cap ∧ cap ≤ maxLen ∧ zs.length = cap ∧ (∀ i, i < zs.length → w.cell? (x.add i) = some (.int k (zs.getD i 0))) ∧ ∀ n ∈ zs, (Lit.int k n).wf = true

theorem IsRow.u64 {w : World} {a : Option Addr} {len cap : Nat} {zs : List Int} (h : IsRow .u64 w a len cap zs) (i : Nat) (hi : i < zs.length) : U64 (zs.getD i 0) := by
  rcases h with ⟨_, _, _, rfl⟩ | ⟨x, _, _, _, _, _, hw⟩
  · cases hi
  · rw [List.getD_eq_getElem?_getD, List.getElem?_eq_getElem hi]
    exact U64.of_wf (hw _ (List.getElem_mem hi))

set_option maxRecDepth 100000 in
set_option maxHeartbeats 2000000 in
theorem drawNumbers_some (a0 : Int) (x : Addr) (len cap : Nat) (zs : List Int) (w : World) (hl : len ≤ cap) (_hm : cap ≤ maxLen) (hz : zs.length = cap) (hu : ∀ i, i < zs.length → U64 (zs.getD i 0))
    (hc : ∀ i, i < zs.length → w.cell? (x.add i) = some (.int .u64 (zs.getD i 0))) (hx : len ≠ 0 → x.block < w.heap.size) :
    Calls Try.prog 3 #[.int .u64 a0, .slice (some x) len cap] w fun e w' => e = .returned (.bool true) ∧ Below w.heap.size w w' := by

  go_enter Try.func3, Try.ntmps3
  go_wp2_with fail
  refine (awake10 _).mono ?_; rintro e w1 ⟨rfl, hb1⟩
  go_wp2_with fail
  refine (drawNew _ _).mono ?_; rintro e w' ⟨rfl, rfl⟩
  go_wp2_with fail
  have hs1 := hb1.size
  go_loopw [8] (fun i wr => ∃ k : Nat, ∃ s : Int, i = .int .i64 k ∧ k ≤ len ∧ wr.cell? ⟨w1.heap.size, 0, none⟩ = some (.int .u64 s) ∧ wr.frozen? ⟨w1.heap.size, 0, none⟩ = false ∧ wr.cell? ⟨w1.heap.size + 1, 0, none⟩ = some (.int .u64 s) ∧ wr.frozen? ⟨w1.heap.size + 1, 0, none⟩ = false ∧ Below w.heap.size w wr) (fun i _ => len - (intOf i).toNat)
  case atStart => exact ⟨0, a0, rfl, by omega, by go_simp, by go_simp, by go_simp, by go_simp, (hb1.alloc hs1 _).alloc (by simp; omega) _⟩
  case round =>
    obtain ⟨k, s, rfl, hk, hc0, hf0, hc1, hf1, hb⟩ := hrel
    by_cases hlt : k < len
    · have hxk : (x.add k).block < w.heap.size := by have := hx (by omega); unfold Addr.add; split <;> exact this
      have hcw : w.cell? (x.add k) = some (.int .u64 (zs.getD k 0)) := hc k (by omega)
      have huk : U64 (zs.getD k 0) := hu k (by omega)
      generalize zs.getD k 0 = z at hcw huk
      clear hc hu hx hz
      clear hl _hm
      have hlt' : (k : Int) < (len : Int) := by omega
      go_wp2_with fail
      · refine (drawNext s _ _ hc0 hf0).mono ?_; rintro e w' ⟨rfl, rfl⟩
        go_wp2_with fail
        refine wp_region_stages0 [0, 0, 2, 0, 0, 0, 1, 0, 0, 0, 1, 0, 0] (by kernel_rfl) (by kernel_rfl) ?_
        repeat (first | (refine stage_any (fun K hK => ?_); go_simp; refine hK _ _ ?_; clear hK K) | (refine stage_pin (fun K hK => ?_); go_simp; refine hK _ _ ?_; clear hK K))
        refine stage_eff (fun K hK => ?_); go_simp
        apply eff_draws
        · intro n
          refine (refNext s _ _ (by go_simp) (by go_simp)).mono ?_
          rintro e w' ⟨rfl, rfl⟩
          exact ⟨rfl, n, setCell_drewN _ _ _ _⟩
        refine hK _ _ ?_; clear hK K
        repeat (first | (refine stage_any (fun K hK => ?_); go_simp; refine hK _ _ ?_; clear hK K) | (refine stage_pin (fun K hK => ?_); go_simp; refine hK _ _ ?_; clear hK K))
        refine stage_pin (fun K hK => ?_); go_simp
        apply pin_draws
        · intro n
          refine (drawState (stp s) _ _ (by go_simp)).mono ?_
          rintro e w' ⟨rfl, rfl⟩
          exact ⟨rfl, 0, rfl⟩
        refine hK _ _ ?_; clear hK K
        repeat (first | (refine stage_any (fun K hK => ?_); go_simp; refine hK _ _ ?_; clear hK K) | (refine stage_pin (fun K hK => ?_); go_simp; refine hK _ _ ?_; clear hK K))
        refine stage_nil ?_
        intro w2 hw2
        have hb2 : Below w.heap.size w w2 := by obtain ⟨n, rfl⟩ := hw2; exact below_drewN ((hb.setCell hs1 _).setCell (by show w.heap.size ≤ w1.heap.size + 1; omega) _) _
        have hd0 : w2.cell? ⟨w1.heap.size, 0, none⟩ = some (.int .u64 (stp s)) := by obtain ⟨n, rfl⟩ := hw2; go_simp
        have hd1 : w2.cell? ⟨w1.heap.size + 1, 0, none⟩ = some (.int .u64 (stp s)) := by obtain ⟨n, rfl⟩ := hw2; go_simp
        have he0 : w2.frozen? ⟨w1.heap.size, 0, none⟩ = false := by obtain ⟨n, rfl⟩ := hw2; go_simp
        have he1 : w2.frozen? ⟨w1.heap.size + 1, 0, none⟩ = false := by obtain ⟨n, rfl⟩ := hw2; go_simp
        have hcell2 : w2.cell? (x.add k) = some (.int .u64 z) := by
          rw [hb2.cell hxk]; exact hcw
        clear hw2 hb hc0 hc1 hf0 hf1
        go_wp2_with fail
        refine (drawBelow (stp s) z _ _ hd0 he0 huk).mono ?_; rintro e w3 ⟨rfl, hw3⟩
        have hb3 : Below w.heap.size w w3 := by subst hw3; exact hb2.setCell hs1 _
        have hg0 : w3.cell? ⟨w1.heap.size, 0, none⟩ = some (.int .u64 (stp (stp s))) := by subst hw3; go_simp
        have hg1 : w3.cell? ⟨w1.heap.size + 1, 0, none⟩ = some (.int .u64 (stp s)) := by subst hw3; go_simp
        have hi0 : w3.frozen? ⟨w1.heap.size, 0, none⟩ = false := by subst hw3; go_simp
        have hi1 : w3.frozen? ⟨w1.heap.size + 1, 0, none⟩ = false := by subst hw3; go_simp
        have hcell3 : w3.cell? (x.add k) = some (.int .u64 z) := by
          rw [hb3.cell hxk]; exact hcw
        clear hw3 hb2 hd0 hd1 he0 he1 hcell2
        go_wp2_with fail
        refine wp_region_stages0 [0, 0, 0, 0, 0, 1, 2, 0, 0, 0, 1, 0, 0, 0, 1, 0, 0] (by kernel_rfl) (by kernel_rfl) ?_
        repeat (first | (refine stage_any (fun K hK => ?_); go_simp; refine hK _ _ ?_; clear hK K) | (refine stage_pin (fun K hK => ?_); go_simp; refine hK _ _ ?_; clear hK K))
        refine stage_eff (fun K hK => ?_); go_simp
        apply eff_draws
        · intro n
          refine (refBelow (stp s) z _ _ (by go_simp) (by go_simp) huk).mono ?_
          rintro e w' ⟨rfl, rfl⟩
          exact ⟨rfl, n, setCell_drewN _ _ _ _⟩
        refine hK _ _ ?_; clear hK K
        repeat (first | (refine stage_any (fun K hK => ?_); go_simp; refine hK _ _ ?_; clear hK K) | (refine stage_pin (fun K hK => ?_); go_simp; refine hK _ _ ?_; clear hK K))
        refine stage_pin (fun K hK => ?_); go_simp
        apply pin_draws
        · intro n
          refine (drawState (stp (stp s)) _ _ (by go_simp)).mono ?_
          rintro e w' ⟨rfl, rfl⟩
          exact ⟨rfl, 0, rfl⟩
        refine hK _ _ ?_; clear hK K
        repeat (first | (refine stage_any (fun K hK => ?_); go_simp; refine hK _ _ ?_; clear hK K) | (refine stage_pin (fun K hK => ?_); go_simp; refine hK _ _ ?_; clear hK K))
        refine stage_nil ?_
        intro w4 hw4
        have hb4 : Below w.heap.size w w4 := by obtain ⟨n, rfl⟩ := hw4; exact below_drewN (hb3.setCell (by show w.heap.size ≤ w1.heap.size + 1; omega) _) _
        have hd0 : w4.cell? ⟨w1.heap.size, 0, none⟩ = some (.int .u64 (stp (stp s))) := by obtain ⟨n, rfl⟩ := hw4; go_simp
        have hd1 : w4.cell? ⟨w1.heap.size + 1, 0, none⟩ = some (.int .u64 (stp (stp s))) := by obtain ⟨n, rfl⟩ := hw4; go_simp
        have he0 : w4.frozen? ⟨w1.heap.size, 0, none⟩ = false := by obtain ⟨n, rfl⟩ := hw4; go_simp
        have he1 : w4.frozen? ⟨w1.heap.size + 1, 0, none⟩ = false := by obtain ⟨n, rfl⟩ := hw4; go_simp
        clear hw4 hb3 hg0 hg1 hi0 hi1 hcell3
        have hk2 : (k : Int) < 200 := by assumption
        go_wp2_with fail
        go_roundw
        case rel => exact ⟨k + 1, stp (stp s), by go_num, by omega, hd0, he0, hd1, he1, hb4⟩
        case measure => simp [intOf]; omega
      · go_ret
        exact ⟨rfl, hb⟩
    · go_wp2_with fail
      go_ret
      exact ⟨rfl, hb⟩

set_option maxHeartbeats 1000000 in
theorem drawNumbers_nil (a0 : Int) (w : World) :
    Calls Try.prog 3 #[.int .u64 a0, .slice none 0 0] w fun e w' => e = .returned (.bool true) ∧ Below w.heap.size w w' := by
  go_enter Try.func3, Try.ntmps3
  go_wp2_with fail
  refine (awake10 _).mono ?_; rintro e w1 ⟨rfl, hb1⟩
  go_wp2_with fail
  refine (drawNew _ _).mono ?_; rintro e w' ⟨rfl, rfl⟩
  go_wp2_with fail
  have hs1 := hb1.size
  refine wp_loop_rounds 1 ?_; rw [rounds_succ]
  go_wp2_with fail
  go_ret
  exact ⟨rfl, (hb1.alloc hs1 _).alloc (by simp; omega) _⟩

theorem drawNumbers_walk (a0 : Int) (a1 : Option Addr) (len1 cap1 : Nat) (z1 : List Int) (w : World) (_ : (Lit.int .u64 a0).wf = true) (h1 : IsRow .u64 w a1 len1 cap1 z1) :
    Calls Try.prog 3 #[.int .u64 a0, .slice a1 len1 cap1] w fun e w' => e = .returned (.bool true) ∧ Below w.heap.size w w' := by
  have hu := h1.u64
  rcases h1 with ⟨rfl, rfl, rfl, rfl⟩ | ⟨x, rfl, hl, hm, hz, hc, _⟩
  · exact drawNumbers_nil a0 w
  · refine drawNumbers_some a0 x len1 cap1 z1 w hl hm hz hu hc fun h0 => ?_
    have h := hc 0 (by omega)
    exact World.block_lt_of_cell? w _ h
end Go.Proofs.Ythhmjaaoidhciaa
