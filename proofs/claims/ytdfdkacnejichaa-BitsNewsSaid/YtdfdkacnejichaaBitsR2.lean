/- The reference of package bits: Bytes, Load; no condition. -/
import Derived.Test.YtdfdkacnejichaaBitsR
import Derived.Test.YtdfdkacnejichaaStage
namespace Go.Proofs.Ytdfdkacnejichaa
open Go Go.RowKit

set_option maxHeartbeats 1000000 in
theorem refBytes (b g n : Nat) (f : Nat → Bool) (w : World) (h : RSet w b g n f) :
    Calls Try.prog 10 #[.pointer (some ⟨b, 0, none⟩)] w fun e w' => e = .returned (.slice (some ⟨w.heap.size, 0, none⟩) ((n + 7) / 8) ((n + 7) / 8)) ∧ Sl w' (.slice (some ⟨w.heap.size, 0, none⟩) ((n + 7) / 8) ((n + 7) / 8)) 1 ((n + 7) / 8) (byts (bytesOf (upto f n) n)) ∧ Mod (fun _ => False) w w' ∧ w'.heap.size = w.heap.size + 1 := by
  obtain ⟨i0, hi, hz0, hz1, hz2⟩ := info_parts infoU8
  have hn := h.small
  have H := Lib.hid h
  have hlt := h.lt
  have HLT := Lib.hid hlt
  obtain ⟨c, c0⟩ := h.s0
  have hmk := run_makeSlice (P := Try.prog) w 22 5 i0 (.int .u8 0) Try.underlying22 hi hz0 .i64 .i64 (((n : Int) + 7) / 8) (((n : Int) + 7) / 8) (by omega) (Int.le_refl _) (by rw [hz1]; omega) (by rw [hz2]; omega) (by omega)
  rw [hz1] at hmk
  have hm : (((n : Int) + 7) / 8).toNat = (n + 7) / 8 := by omega
  rw [hm] at hmk
  clear hi hz0 hz1 hz2 hm h hlt
  go_enter Try.func10, Try.ntmps10
  go_wp2_with fail
  obtain ⟨m, hmm⟩ : ∃ m, m = (n + 7) / 8 := ⟨_, rfl⟩
  rw [← hmm]
  have MM := Lib.hid hmm
  obtain ⟨B, hB⟩ : ∃ B, B = w.heap.size := ⟨_, rfl⟩
  rw [← hB]
  have HBB := Lib.hid hB
  clear hB hmm hmk c0
  go_loopw [4] (fun v wr => ∃ k : Nat, v = .int .i64 k ∧ k ≤ n ∧ Hid (∃ cs : Array Value, Blk wr B cs 5 ∧ cs.size = m ∧ ∀ j, j < m → cs[j]? = some (.int .u8 (byt (upto f k) j : Nat))) ∧ Mod (fun _ => False) w wr ∧ wr.heap.size = B + 1) (fun v _ => n - (intOf v).toNat)
  case atStart => exact ⟨0, rfl, Nat.zero_le _, ⟨_, by have := Blk.new w (madeCells #[Value.int .u8 0] m) 5; rw [← HBB.out] at this; exact this, size_madeCells _ _, fun j hj => by rw [made_get _ _ _ rfl hj, byt_upto_zero]; rfl⟩, (Mod.refl _ w).alloc _, by rw [HBB.out]; simp⟩
  case round =>
    obtain ⟨k, rfl, hk, ⟨cs, hcs, hcz, hck⟩, hmr, hBs⟩ := hrel
    have hHL := HLT.out
    have hBBB := HBB.out
    have HR := H.out.mod hmr (fun h => h) (fun h => h)
    obtain ⟨c1, d3⟩ := HR.s0
    have HCS := Lib.hid hcs
    have HCK := Lib.hid hck
    have HCZ := Lib.hid hcz
    by_cases hlt : k < n
    · have hMM := MM.out
      obtain ⟨q, hq⟩ : ∃ q : Nat, q = k / 8 := ⟨_, rfl⟩
      obtain ⟨r, hrr⟩ : ∃ r : Nat, r = k % 8 := ⟨_, rfl⟩
      have hqm2 : q < m := by omega
      have hk9 : (k : Int) ≤ 65536 := by omega
      have hlt1 : (k : Int) < n := by omega
      obtain ⟨d1, _⟩ := HR.at hlt
      have hqq : (k : Int) / 8 = q := by omega
      have htm : (k : Int).tmod 8 = r := by rw [Int.tmod_eq_emod_of_nonneg (by omega)]; omega
      have hem : (k : Int) % 8 = r := by omega
      have hwr : IntKind.u64.wrap (r : Int) = r := by rw [IntKind.wrap_u64]; omega
      have hwi : IntKind.i64.wrap (r : Int) = r := by rw [IntKind.wrap_i64]; omega
      have hwq : IntKind.i64.wrap (q : Int) = q := by rw [IntKind.wrap_i64]; omega
      have hr8 : r < 8 := by omega
      have hsh : ∀ Z : Int, Op.shift .shl .u8 Z .u64 (r : Int) = pure (.int .u8 (IntKind.u8.wrap (Z * 2 ^ r))) := by
        intro Z
        rw [shift_shl_u8 .u64 Z (r : Int) (by omega) (by omega)]
        rfl
      have hfr : wr.frozen? ⟨B, q, none⟩ = false := hcs.frozen q
      have hu : wr.cell? ⟨B, q, none⟩ = some (.int .u8 (byt (upto f k) q : Nat)) := by rw [hcs.cell]; exact hck q hqm2
      have hno : Hid (f k = false ∨ q ≠ k / 8 → True) := fun _ => trivial
      have hyes := byt_upto_yes f k
      rw [← hq, ← hrr] at hyes
      have HY := Lib.hid hyes
      have HQ := Lib.hid hq
      have hbl := byt_lt (upto f k) q
      clear hq hrr hMM hHL hBBB HR hcs hck hcz hyes hno
      cases hfk : f k with
      | false =>
        rw [hfk] at d1
        have HF := Lib.hid hfk
        clear hfk
        go_wp2_with fail
        refine ⟨⟨k + 1, by go_num, by omega, ⟨cs, HCS.out, HCZ.out, fun j hj => ?_⟩, hmr, hBs⟩, by simp [intOf]; omega⟩
        rw [byt_upto_no f k j (.inl HF.out)]
        exact HCK.out j hj
      | true =>
        rw [hfk] at d1
        have HF := Lib.hid hfk
        have hyy := HY.out hfk
        clear hfk
        have HYY := Lib.hid hyy
        clear hyy
        generalize hb0 : byt (upto f k) q = b0 at hu hbl HYY
        go_wp2_with fail
        refine ⟨⟨k + 1, by go_num, by omega, ⟨_, HCS.out.set q _, by simpa using HCZ.out, fun j hj => ?_⟩, hmr.setCell (.inr (by show _ ≤ B; rw [HBB.out]; exact Nat.le_refl _)) _, by simpa using hBs⟩, by simp [intOf]; omega⟩
        by_cases e : j = q
        · subst e
          rw [Array.getElem?_setIfInBounds_self_of_lt (by rw [HCZ.out]; exact hj)]
          rw [HYY.out]
        · rw [Array.getElem?_setIfInBounds_ne (Ne.symm e), byt_upto_no f k j (.inr (by have := HQ.out; omega))]
          exact HCK.out j hj
    · have hkn : k = n := by omega
      have hge : ¬ ((k : Int) < (n : Int)) := by omega
      have HKN := Lib.hid hkn
      clear hHL hBBB HR hcs hck hcz hlt hkn
      go_wp2_with fail
      go_ret
      rw [← HBB.out, ← MM.out]
      have hl : (byts (bytesOf (upto f n) n)).length = m := by rw [MM.out]; simp [bytesOf]
      refine ⟨rfl, .inr ⟨_, _, rfl, by rw [hl, Nat.mul_one], fun j u hj => ?_⟩, hmr, hBs⟩
      have hjm : j < m := by rw [← hl]; exact (List.getElem?_eq_some_iff.1 hj).1
      have hadd : (⟨B, 0, none⟩ : Addr).add j = ⟨B, j, none⟩ := by unfold Addr.add; split <;> simp_all
      rw [hadd, HCS.out.cell, HCK.out j hjm]
      rw [← hj, ← HKN.out]
      unfold bytesOf
      rw [List.getElem?_map, List.getElem?_map, List.getElem?_range (by rw [HKN.out, ← MM.out]; exact hjm)]
      rfl

set_option maxHeartbeats 400000 in
theorem refLoadBad (n : Int) (sv : Value) (w : World) (h : n < 0 ∨ 65536 < n) :
    Calls Try.prog 8 #[.int .i64 n, sv] w fun e w' => e = .returned (.tuple #[.pointer none, .int .i64 1]) ∧ w = w' := by
  go_enter Try.func8, Try.ntmps8
  go_wp2_with fail
  refine (refNewBad n _ h).mono ?_; rintro e w' ⟨rfl, rfl⟩
  go_wp2_with fail
  go_ret2
  exact ⟨rfl, rfl⟩

set_option maxHeartbeats 400000 in
theorem refLoadForm (n : Nat) (a : Option Addr) (len c : Nat) (w : World) (h : n ≤ 65536) (hl : len ≠ (n + 7) / 8) :
    Calls Try.prog 8 #[.int .i64 n, .slice a len c] w fun e w' => e = .returned (.tuple #[.pointer none, .int .i64 2]) ∧ Mod (fun _ => False) w w' := by
  have h3 : ¬ (len : Int) = ((n : Int) + 7) / 8 := by omega
  go_enter Try.func8, Try.ntmps8
  go_wp2_with fail
  refine (refNew n _ h).mono ?_; rintro e w' ⟨rfl, h1, h2⟩
  go_wp2_with fail
  go_ret2
  exact ⟨rfl, h2⟩

/-- A bit of a byte, as the reference asks for it. -/
theorem and_bit (z r : Nat) (hz : z < 256) (_ : r < 8) : (decide (bits .and .u8 ((z : Int) / 2 ^ r) 1 = 1)) = z.testBit r := by
  have h1 : ((z : Int) / 2 ^ r) = ((z / 2 ^ r : Nat) : Int) := by simp
  have h2 : z / 2 ^ r < 256 := Nat.lt_of_le_of_lt (Nat.div_le_self _ _) hz
  rw [h1]
  have e1 : (BitVec.ofInt 8 ((z / 2 ^ r : Nat) : Int)).toNat = z / 2 ^ r := by
    rw [BitVec.ofInt_natCast, BitVec.toNat_ofNat]; exact Nat.mod_eq_of_lt h2
  have e3 : bits .and .u8 ((z / 2 ^ r : Nat) : Int) 1 = (((z / 2 ^ r) % 2 : Nat) : Int) := by
    show IntKind.u8.wrap ((BitVec.ofInt 8 ((z / 2 ^ r : Nat) : Int) &&& BitVec.ofInt 8 1).toNat : Int) = _
    rw [BitVec.toNat_and, e1, show (BitVec.ofInt 8 1).toNat = 1 from rfl, Nat.and_one_is_mod]
    simp [IntKind.wrap, IntKind.bits, IntKind.signed]
    omega
  rw [e3, Nat.testBit_eq_decide_div_mod_eq]
  congr 1
  simp only [eq_iff_iff]
  omega

/-- The places of bytes, but for those behind the last one. -/
def ofBn (bs : List Nat) (n : Nat) : Nat → Bool := fun x => decide (x < n) && (bs.getD (x / 8) 0).testBit (x % 8)
set_option maxHeartbeats 1000000 in
theorem refLoad (n : Nat) (bs : List Nat) (a : Option Addr) (len c : Nat) (w : World) (h : n ≤ 65536) (hl : len = (n + 7) / 8) (hs : Sl w (.slice a len c) 1 len (byts bs)) (hb : ∀ x ∈ bs, x < 256) :
    Calls Try.prog 8 #[.int .i64 n, .slice a len c] w fun e w' => Mod (fun _ => False) w w' ∧
      (e = .returned (.tuple #[.pointer (some ⟨w.heap.size + 1, 0, none⟩), .int .i64 0]) ∧ RSet w' (w.heap.size + 1) w.heap.size n (ofBn bs n) ∧ bytesOf (ofBn bs n) n = bs ∨
       e = .returned (.tuple #[.pointer none, .int .i64 2]) ∧ bytesOf (ofBn bs n) n ≠ bs) := by
  have h3 : (len : Int) = ((n : Int) + 7) / 8 := by omega
  have HS := Lib.hid hs
  have HB := Lib.hid hb
  have HL := Lib.hid hl
  clear hs hb
  go_enter Try.func8, Try.ntmps8
  go_wp2_with fail
  refine (refNew n _ h).mono ?_; rintro e w1 ⟨rfl, hb1, hm1⟩
  clear hl
  have HB1 := Lib.hid hb1
  clear hb1
  have h4 : ((n : Int) + 7) / 8 = len := by omega
  clear h3
  go_wp2_with fail
  obtain ⟨B, hB⟩ : ∃ B, B = w.heap.size := ⟨_, rfl⟩
  rw [← hB] at HB1 ⊢
  have HBB := Lib.hid hB
  clear hB h4
  go_loopw [8] (fun v wr => ∃ k : Nat, v = .int .i64 k ∧ k ≤ n ∧ Hid (RSet wr (B + 1) B n (ofBn bs k)) ∧ Mod (fun _ => False) w wr) (fun v _ => n - (intOf v).toNat)
  case atStart => exact ⟨0, rfl, Nat.zero_le _, HB1.out.ext (fun x _ => by simp [ofBn]), hm1⟩
  case round =>
    obtain ⟨k, rfl, hk, hr, hm⟩ := hrel
    by_cases hlt : k < n
    · have hln := HL.out
      obtain ⟨q, hq⟩ : ∃ q : Nat, q = k / 8 := ⟨_, rfl⟩
      obtain ⟨r, hrr⟩ : ∃ r : Nat, r = k % 8 := ⟨_, rfl⟩
      have hqm2 : q < len := by omega
      obtain ⟨x, c', hv, hcell0⟩ := HS.out.byt q hqm2
      simp only [Value.slice.injEq] at hv
      obtain ⟨rfl, -, rfl⟩ := hv
      have hcell := hm.cell hcell0 (by simp)
      obtain ⟨d1, d2⟩ := hr.out.at hlt
      obtain ⟨c1, d3⟩ := hr.out.s0
      have hqq : (k : Int) / 8 = q := by omega
      have hr8 : r < 8 := by omega
      have htm : (k : Int).tmod 8 = r := by rw [Int.tmod_eq_emod_of_nonneg (by omega)]; omega
      have hem : (k : Int) % 8 = r := by omega
      have hz : bs.getD q 0 < 256 := by
        rw [List.getD_eq_getElem?_getD]
        cases hkk : bs[q]? with
        | none => simp
        | some z => exact HB.out z (List.mem_of_getElem? hkk)
      have hsh : ∀ Z : Int, Op.shift .shr .u8 Z .u64 (r : Int) = pure (.int .u8 (Z / 2 ^ r)) := by
        intro Z
        rw [shift_shr_u8 .u64 Z (r : Int) (by omega) (by omega)]
        rfl
      have hwr : IntKind.u64.wrap (r : Int) = r := by rw [IntKind.wrap_u64]; omega
      have hwi : IntKind.i64.wrap (r : Int) = r := by rw [IntKind.wrap_i64]; omega
      have hwq : IntKind.i64.wrap (q : Int) = q := by rw [IntKind.wrap_i64]; omega
      have hlt1 : (k : Int) < n := by omega
      have hk9 : (k : Int) ≤ 65536 := by omega
      have hnext : Hid (∀ v, v = .bool ((bs.getD q 0).testBit r) → RSet (wr.setCell ⟨B, k, none⟩ v) (B + 1) B n (ofBn bs (k + 1))) := by
        intro v hv
        refine hr.out.put k v _ ?_ (fun y hy => ?_)
        · rw [hv, hq, hrr]; unfold ofBn; simp
        · unfold ofBn
          congr 1
          simp; omega
      generalize bs.getD q 0 = z at hcell hnext hz
      have hand := and_bit z r hz hr8
      clear hln hq hrr hcell0
      go_wp2_with fail
      refine wp_region_stages0 [0, 0, 0, 1, 0, 0, 0, 0, 0, 1, 0, 0, 0, 0, 0, 0, 0, 2] (by kernel_rfl) (by kernel_rfl) ?_
      repeat (first | (refine stage_any (fun K hK => ?_); go_simp; refine hK _ _ ?_; clear hK K) | (refine stage_pin (fun K hK => ?_); go_simp; refine hK _ _ ?_; clear hK K))
      refine stage_eff (fun K hK => ?_); go_simp; refine eff_store ?_; refine hK _ _ ?_; clear hK K
      refine stage_nil ?_
      rintro _ ⟨nd, rfl⟩
      have hnx := hnext.out _ (congrArg Value.bool hand)
      have HNX := Lib.hid hnx
      clear hnx hnext
      go_wp2_with fail
      go_roundw
      case rel => exact ⟨k + 1, by go_num, by omega, HNX.out.drewN _, (hm.setCell (.inr (by show _ ≤ B; rw [HBB.out]; exact Nat.le_refl _)) _).drewN _⟩
      case measure => simp [intOf]; omega
    · have hkn : k = n := by omega
      subst hkn
      have HR := hr.out
      obtain ⟨c1, d3⟩ := hr.out.s0
      go_wp2_with fail
      have hlen : (byts bs).length = len := by have := HS.out.len; omega
      have hsb : ∀ n, Sl (wr.drewN n) (.slice a len c) 1 len (byts bs) := fun n => (HS.out.mod hm (fun _ _ _ _ h => h)).drewN n
      refine wp_region_stagesS [0, 2, 1, 0, 0, 0] (fun w' => Sl w' (.slice a len c) 1 len (byts bs)) (by kernel_rfl) (by kernel_rfl) hsb ?_
      refine stage_anyT (fun K hK => ?_); go_simp; refine hK _ _ ?_; clear hK K
      refine stage_eff (fun K hK => ?_); go_simp
      apply eff_class (v := .slice (some ⟨wr.heap.size, 0, none⟩) ((k + 7) / 8) ((k + 7) / 8)) (fun w' => Mod (fun _ => False) wr w' ∧ Sl w' (.slice (some ⟨wr.heap.size, 0, none⟩) ((k + 7) / 8) ((k + 7) / 8)) 1 ((k + 7) / 8) (byts (bytesOf (upto (ofBn bs k) k) k)) ∧ Sl w' (.slice a len c) 1 len (byts bs))
      · intro m
        refine (refBytes _ _ _ _ _ (HR.drewN m)).mono ?_
        rintro e w' ⟨rfl, h1, h2, _⟩
        exact ⟨rfl, ⟨h2.os, h2.tape, h2.output, h2.size, h2.block⟩, h1, (hsb m).mod h2 (fun _ _ _ _ h => h)⟩
      · exact ⟨fun w n ⟨h1, h2, h3⟩ => ⟨h1.drewN n, h2.drewN n, h3.drewN n⟩, fun w h => h.2.2⟩
      refine hK _ _ ?_; clear hK K
      refine stage_pin_v (by rfl) (.string (strOf (bytesOf (upto (ofBn bs k) k) k))) (sq_convert _ _ _ rfl (fun w' hw' => str_conv w' _ _ 5 (by kernel_rfl) (by kernel_rfl) (by kernel_rfl) _ _ _ hw'.2.1)) ?_
      refine stage_anyT (fun K hK => ?_); go_simp; refine hK _ _ ?_; clear hK K
      refine stage_any_v (by rfl) (.string (strOf bs)) (sq_convert _ _ _ rfl (fun w' hw' => str_conv w' _ _ 5 (by kernel_rfl) (by kernel_rfl) (by kernel_rfl) _ _ _ hw')) ?_
      refine stage_anyT (fun K hK => ?_); go_simp; refine hK _ _ ?_; clear hK K
      refine stage_nil ?_
      rintro w5 ⟨h1, h2, h3⟩
      have hup : upto (ofBn bs k) k = ofBn bs k := by
        funext x
        unfold upto ofBn
        by_cases hx : x < k <;> simp [hx]
      have hm5 : Mod (fun _ => False) w w5 := hm.trans h1
      have HR5 := HR.mod h1 (fun h => h) (fun h => h)
      rw [hup, str_eq (bytesOf_lt _ _) HB.out]
      clear h1 h2 h3 HR d3
      by_cases hE : bytesOf (ofBn bs k) k = bs
      · rw [decide_eq_true hE]
        have HE := Lib.hid hE
        clear hE
        go_wp2_with fail
        go_ret2
        refine ⟨hm5, .inl ⟨by rw [← HBB.out]; rfl, ?_, HE.out⟩⟩
        rw [← HBB.out]
        exact HR5
      · rw [decide_eq_false hE]
        have HE := Lib.hid hE
        clear hE
        go_wp2_with fail
        go_ret2
        exact ⟨hm5, .inr ⟨rfl, HE.out⟩⟩
end Go.Proofs.Ytdfdkacnejichaa
