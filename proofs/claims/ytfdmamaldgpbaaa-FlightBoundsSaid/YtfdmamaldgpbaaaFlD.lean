/- Package flight: what Drop and Late ask of a request. -/
import Derived.Test.YtfdmamaldgpbaaaFlC
namespace Go.Proofs.Ytfdmamaldgpbaaa
open Go Go.RowKit

set_option maxRecDepth 100000 in
set_option maxHeartbeats 1000000 in
theorem flDrop1 (p k t q : Int) (g : Nat) (w : World) (hc : w.cell? ⟨g, 0, none⟩ = some (.int .i64 q)) :
    Calls Try.prog 31 #[.agg #[.int .i64 p, .int .i64 k, .int .i64 t], .pointer (some ⟨g, 0, none⟩)] w fun e w' => e = .returned (.bool (p == q)) ∧ Mod (fun _ => False) w w' := by
  have hg : g < w.heap.size := World.block_lt_of_cell? w _ hc
  have hne : ¬ w.heap.size = g := by omega
  go_enter Try.func31, Try.ntmps31
  go_wp2_with fail
  go_ret
  exact ⟨rfl, (Mod.refl _ w).alloc _⟩

set_option maxRecDepth 100000 in
set_option maxHeartbeats 1000000 in
theorem flLate1 (p k t q : Int) (g g2 b M : Nat) (most each pat : Int) (ks : List (Int × Rq)) (w : World) (hc : w.cell? ⟨g, 0, none⟩ = some (.int .i64 q)) (hc2 : w.cell? ⟨g2, 0, none⟩ = some (.pointer (some ⟨b, 0, none⟩))) (h : TB w b M most each pat ks)
    (hq : 0 ≤ q ∧ q ≤ 1099511627776) (ht : 0 ≤ t ∧ t ≤ 1099511627776) :
    Calls Try.prog 32 #[.agg #[.int .i64 p, .int .i64 k, .int .i64 t], .pointer (some ⟨g, 0, none⟩), .pointer (some ⟨g2, 0, none⟩)] w fun e w' => e = .returned (.bool (decide (pat ≤ q - t))) ∧ Mod (fun _ => False) w w' := by
  have hg : g < w.heap.size := World.block_lt_of_cell? w _ hc
  have hg2 : g2 < w.heap.size := World.block_lt_of_cell? w _ hc2
  have c2 : w.cell? ⟨b, 2, none⟩ = some (.int .i64 pat) := h.head.cell 2
  have hlt := h.lt
  obtain ⟨d, hd⟩ : ∃ d, d = q - t := ⟨_, rfl⟩
  have hw : IntKind.i64.wrap (q - t) = d := by rw [hd]; unfold IntKind.wrap; simp [IntKind.bits, IntKind.signed]; omega
  rw [← hd]
  have m := (Mod.refl (fun _ => False) w).alloc (.cells #[.int .i64 p, .int .i64 k, .int .i64 t] 41)
  have HM := Lib.hid m
  have a1 := m.cell hc (fun h => h)
  have a2 := m.cell hc2 (fun h => h)
  have a3 := m.cell c2 (fun h => h)
  have a4 := (Blk.new w #[.int .i64 p, .int .i64 k, .int .i64 t] 41).cell 2
  clear h hd m
  go_enter Try.func32, Try.ntmps32
  go_wp2_with fail
  go_quiet (fail)
  go_wp2_with fail
  go_ret
  exact ⟨by simp, HM.out.drewN _⟩
end Go.Proofs.Ytfdmamaldgpbaaa
