/- The reference of package bits: Bytes; no condition. -/
import Derived.Test.YtegmgflplhpacaaDoorBitsR
import Derived.Test.YtegmgflplhpacaaDoorStage
namespace Go.Proofs.YtegmgflplhpacaaDoor
open Go Go.RowKit

set_option maxHeartbeats 1000000 in
theorem refBytes (b g n : Nat) (f : Nat → Bool) (w : World) (h : RSet w b g n f) :
    Calls Tryd.prog 25 #[.pointer (some ⟨b, 0, none⟩)] w fun e w' => e = .returned (.slice (some ⟨w.heap.size, 0, none⟩) ((n + 7) / 8) ((n + 7) / 8)) ∧ Sl w' (.slice (some ⟨w.heap.size, 0, none⟩) ((n + 7) / 8) ((n + 7) / 8)) 1 ((n + 7) / 8) (byts (bytesOf (upto f n) n)) ∧ Mod (fun _ => False) w w' ∧ w'.heap.size = w.heap.size + 1 := by
  obtain ⟨i0, hi, hz0, hz1, hz2⟩ := info_parts infoU8
  have hn := h.small
  have H := Lib.hid h
  have hlt := h.lt
  have HLT := Lib.hid hlt
  obtain ⟨c, c0⟩ := h.s0
  have hmk := run_makeSlice (P := Tryd.prog) w 33 5 i0 (.int .u8 0) Tryd.underlying33 hi hz0 .i64 .i64 (((n : Int) + 7) / 8) (((n : Int) + 7) / 8) (by omega) (Int.le_refl _) (by rw [hz1]; omega) (by rw [hz2]; omega) (by omega)
  rw [hz1] at hmk
  have hm : (((n : Int) + 7) / 8).toNat = (n + 7) / 8 := by omega
  rw [hm] at hmk
  clear hi hz0 hz1 hz2 hm h hlt
  go_enter Tryd.func25, Tryd.ntmps25
  go_wp2_with fail
  obtain ⟨m, hmm⟩ : ∃ m, m = (n + 7) / 8 := ⟨_, rfl⟩
  rw [← hmm]
  have MM := Lib.hid hmm
  obtain ⟨B, hB⟩ : ∃ B, B = w.heap.size := ⟨_, rfl⟩
  rw [← hB]
  have HBB := Lib.hid hB
  clear hB hmm hmk c0
  go_loopw [4] (fun v wr => ∃ k : Nat, v = .int .i64 k ∧ k ≤ n ∧ Hid (∃ cs : Array Value, Blk wr B cs 5 ∧ cs.size = m ∧ ∀ j, j < m → cs[j]? = some (.int .u8 (byt (upto f k) j : Nat))) ∧ Mod (fun _ => False) w wr ∧ wr.heap.size = B + 1) (fun v _ => n - (intOf v).toNat)
  case atStart => exact ⟨0, rfl, Nat.zero_le _, ⟨_, by have := Blk.new w (madeCells #[Value.int .u8 0] m) 5; rw [← HBB.out] at this; exact this, size_madeCells _ _, fun j hj => by rw [made_get _ _ _ rfl hj, byt_upto_zero]; rfl⟩, (Mod.refl _ w).alloc _, by rw [HBB.out]; simp⟩
  case round =>
    obtain ⟨k, rfl, hk, ⟨cs, hcs, hcz, hck⟩, hmr, hBs⟩ := hrel
    have hHL := HLT.out
    have hBBB := HBB.out
    have HR := H.out.mod hmr (fun h => h) (fun h => h)
    obtain ⟨c1, d3⟩ := HR.s0
    have HCS := Lib.hid hcs
    have HCK := Lib.hid hck
    have HCZ := Lib.hid hcz
    by_cases hlt : k < n
    · have hMM := MM.out
      obtain ⟨q, hq⟩ : ∃ q : Nat, q = k / 8 := ⟨_, rfl⟩
      obtain ⟨r, hrr⟩ : ∃ r : Nat, r = k % 8 := ⟨_, rfl⟩
      have hqm2 : q < m := by omega
      have hk9 : (k : Int) ≤ 65536 := by omega
      have hlt1 : (k : Int) < n := by omega
      obtain ⟨d1, _⟩ := HR.at hlt
      have hqq : (k : Int) / 8 = q := by omega
      have htm : (k : Int).tmod 8 = r := by rw [Int.tmod_eq_emod_of_nonneg (by omega)]; omega
      have hem : (k : Int) % 8 = r := by omega
      have hwr : IntKind.u64.wrap (r : Int) = r := by rw [IntKind.wrap_u64]; omega
      have hwi : IntKind.i64.wrap (r : Int) = r := by rw [IntKind.wrap_i64]; omega
      have hwq : IntKind.i64.wrap (q : Int) = q := by rw [IntKind.wrap_i64]; omega
      have hr8 : r < 8 := by omega
      have hsh : ∀ Z : Int, Op.shift .shl .u8 Z .u64 (r : Int) = pure (.int .u8 (IntKind.u8.wrap (Z * 2 ^ r))) := by
        intro Z
        rw [shift_shl_u8 .u64 Z (r : Int) (by omega) (by omega)]
        rfl
      have hfr : wr.frozen? ⟨B, q, none⟩ = false := hcs.frozen q
      have hu : wr.cell? ⟨B, q, none⟩ = some (.int .u8 (byt (upto f k) q : Nat)) := by rw [hcs.cell]; exact hck q hqm2
      have hno : Hid (f k = false ∨ q ≠ k / 8 → True) := fun _ => trivial
      have hyes := byt_upto_yes f k
      rw [← hq, ← hrr] at hyes
      have HY := Lib.hid hyes
      have HQ := Lib.hid hq
      have hbl := byt_lt (upto f k) q
      clear hq hrr hMM hHL hBBB HR hcs hck hcz hyes hno
      cases hfk : f k with
      | false =>
        rw [hfk] at d1
        have HF := Lib.hid hfk
        clear hfk
        go_wp2_with fail
        refine ⟨⟨k + 1, by go_num, by omega, ⟨cs, HCS.out, HCZ.out, fun j hj => ?_⟩, hmr, hBs⟩, by simp [intOf]; omega⟩
        rw [byt_upto_no f k j (.inl HF.out)]
        exact HCK.out j hj
      | true =>
        rw [hfk] at d1
        have HF := Lib.hid hfk
        have hyy := HY.out hfk
        clear hfk
        have HYY := Lib.hid hyy
        clear hyy
        generalize hb0 : byt (upto f k) q = b0 at hu hbl HYY
        go_wp2_with fail
        refine ⟨⟨k + 1, by go_num, by omega, ⟨_, HCS.out.set q _, by simpa using HCZ.out, fun j hj => ?_⟩, hmr.setCell (.inr (by show _ ≤ B; rw [HBB.out]; exact Nat.le_refl _)) _, by simpa using hBs⟩, by simp [intOf]; omega⟩
        by_cases e : j = q
        · subst e
          rw [Array.getElem?_setIfInBounds_self_of_lt (by rw [HCZ.out]; exact hj)]
          rw [HYY.out]
        · rw [Array.getElem?_setIfInBounds_ne (Ne.symm e), byt_upto_no f k j (.inr (by have := HQ.out; omega))]
          exact HCK.out j hj
    · have hkn : k = n := by omega
      have hge : ¬ ((k : Int) < (n : Int)) := by omega
      have HKN := Lib.hid hkn
      clear hHL hBBB HR hcs hck hcz hlt hkn
      go_wp2_with fail
      go_ret
      rw [← HBB.out, ← MM.out]
      have hl : (byts (bytesOf (upto f n) n)).length = m := by rw [MM.out]; simp [bytesOf]
      refine ⟨rfl, .inr ⟨_, _, rfl, by rw [hl, Nat.mul_one], fun j u hj => ?_⟩, hmr, hBs⟩
      have hjm : j < m := by rw [← hl]; exact (List.getElem?_eq_some_iff.1 hj).1
      have hadd : (⟨B, 0, none⟩ : Addr).add j = ⟨B, j, none⟩ := by unfold Addr.add; split <;> simp_all
      rw [hadd, HCS.out.cell, HCK.out j hjm]
      rw [← hj, ← HKN.out]
      unfold bytesOf
      rw [List.getElem?_map, List.getElem?_map, List.getElem?_range (by rw [HKN.out, ← MM.out]; exact hjm)]
      rfl

end Go.Proofs.YtegmgflplhpacaaDoor
