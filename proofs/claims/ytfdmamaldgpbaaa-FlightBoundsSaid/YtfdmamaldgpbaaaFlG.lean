/- Package flight: Late. -/
import Derived.Test.YtfdmamaldgpbaaaFlF
namespace Go.Proofs.Ytfdmamaldgpbaaa
open Go Go.RowKit

set_option maxRecDepth 100000 in
set_option maxHeartbeats 400000 in
theorem flLateBad (q : Int) (b : Nat) (w : World) (hq : ¬ (0 ≤ q ∧ q ≤ 1099511627776)) :
    Calls Try.prog 21 #[.pointer (some ⟨b, 0, none⟩), .int .i64 q] w fun e w' => e = .returned (.tuple #[.slice none 0 0, .int .i64 1]) ∧ Mod (fun _ => False) w w' := by
  have e1 : (decide (0 ≤ q) && decide (q ≤ 1099511627776)) = false := by
    rw [Bool.and_eq_false_iff, decide_eq_false_iff_not, decide_eq_false_iff_not]; omega
  clear hq
  go_enter Try.func21, Try.ntmps21
  go_wp2_with fail
  refine (flWithin _ _ _ _).mono ?_; rw [e1]; rintro e w' ⟨rfl, rfl⟩
  go_wp2_with fail
  go_ret2
  exact ⟨rfl, ((Mod.refl _ w).alloc _).alloc _⟩
set_option maxRecDepth 100000 in
set_option maxHeartbeats 400000 in
theorem flLate (q : Int) (b M : Nat) (most each pat : Int) (ks : List (Int × Rq)) (w : World) (h : TB w b M most each pat ks) (hlen : ks.length ≤ 1000) (hI : ∀ q ∈ ks, I64 q.1) (hq : 0 ≤ q ∧ q ≤ 1099511627776) (ht : ∀ q ∈ ks, 0 ≤ q.2.t ∧ q.2.t ≤ 1099511627776) :
    Calls Try.prog 21 #[.pointer (some ⟨b, 0, none⟩), .int .i64 q] w fun e w' => (∃ v, e = .returned (.tuple #[v, .int .i64 0]) ∧ w'.ownsRow w.heap.size 41 3 v (ks.filter fun x => decide (pat ≤ q - x.2.t)).length (rqL (ks.filter fun x => decide (pat ≤ q - x.2.t)))) ∧ TB w' b M most each pat (ks.filter fun x => !decide (pat ≤ q - x.2.t)) ∧ Mod (· = M) w w' := by
  have e1 : (decide (0 ≤ q) && decide (q ≤ 1099511627776)) = true := by simp [hq.1, hq.2]
  obtain ⟨w1, hw1⟩ : ∃ w1, w1 = (w.alloc (.cells #[.pointer (some ⟨b, 0, none⟩)] 25)).alloc (.cells #[.int .i64 q] 3) := ⟨_, rfl⟩
  have m1 : Mod (fun _ => False) w w1 := by rw [hw1]; exact ((Mod.refl (fun _ => False) w).alloc _).alloc _
  have H1 := Lib.hid (h.new m1)
  have k1 : w1.cell? ⟨w.heap.size, 0, none⟩ = some (.pointer (some ⟨b, 0, none⟩)) := by rw [hw1]; exact ((Blk.new w _ _).alloc _).cell 0
  have k2 : w1.cell? ⟨w.heap.size + 1, 0, none⟩ = some (.int .i64 q) := by
    have := (Blk.new (w.alloc (.cells #[.pointer (some ⟨b, 0, none⟩)] 25)) #[.int .i64 q] 3).cell 0
    rw [hw1]; simp
  have hlt := h.lt
  have HM1 := Lib.hid m1
  have K1 := Lib.hid k1
  have K2 := Lib.hid k2
  have HW := Lib.hid hw1
  clear h m1 k1 k2 hw1
  go_enter Try.func21, Try.ntmps21
  go_wp2_with fail
  refine (flWithin _ _ _ _).mono ?_; rw [e1]; rintro e w' ⟨rfl, rfl⟩
  go_wp2_with fail
  rw [← HW.out]
  refine (flOut 32 #[.pointer (some ⟨w.heap.size + 1, 0, none⟩), .pointer (some ⟨w.heap.size, 0, none⟩)] (fun x => decide (pat ≤ q - x.2.t)) b M most each pat ks _ H1.out hlen hI (fun _ _ => rfl) (fun w' ks' k r hT hm hmem => flLate1 r.p k r.t q _ _ b M most each pat ks' w' (hm.cell K2.out (by show ¬ w.heap.size + 1 = M; omega)) (hm.cell K1.out (by show ¬ w.heap.size = M; omega)) hT hq (ht _ hmem))).mono ?_
  rintro e w2 ⟨⟨v, rfl, o⟩, t2, m2⟩
  go_wp2_with fail
  go_ret2
  exact ⟨⟨v, rfl, o.mono HM1.out.size⟩, t2, (HM1.out.mono (fun _ _ h => h.elim)).trans m2⟩
end Go.Proofs.Ytfdmamaldgpbaaa
