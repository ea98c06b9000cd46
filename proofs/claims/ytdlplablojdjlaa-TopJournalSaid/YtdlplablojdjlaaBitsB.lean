/- Load and Bytes of package bits; no condition. -/
import Derived.Test.YtdlplablojdjlaaBitsA
import Derived.Test.YtdlplablojdjlaaStage
import Derived.Deep.QuietTactic
import Derived.BigQuiet
namespace Go.Proofs.Ytdlplablojdjlaa
open Go Go.RowKit

set_option maxHeartbeats 400000 in
theorem bitsLoadBad (n : Int) (sv : Value) (w : World) (h : n < 0 ∨ 65536 < n) :
    Calls Try.prog 13 #[.int .i64 n, sv] w fun e w' => e = .returned (.tuple #[.pointer none, .int .i64 1]) ∧ w = w' := by
  go_enter Try.func13, Try.ntmps13
  go_wp2_with fail
  refine (bitsNewBad n _ h).mono ?_; rintro e w' ⟨rfl, rfl⟩
  go_wp2_with fail
  go_ret2
  exact ⟨rfl, rfl⟩

set_option maxHeartbeats 400000 in
theorem bitsLoadForm (n : Nat) (a : Option Addr) (len c : Nat) (w : World) (h : n ≤ 65536) (hl : len ≠ (n + 7) / 8) :
    Calls Try.prog 13 #[.int .i64 n, .slice a len c] w fun e w' => e = .returned (.tuple #[.pointer none, .int .i64 2]) ∧ Mod (fun _ => False) w w' := by
  have h3 : ¬ (len : Int) = ((n : Int) + 7) / 8 := by omega
  go_enter Try.func13, Try.ntmps13
  go_wp2_with fail
  refine (bitsNew n _ h).mono ?_; rintro e w' ⟨rfl, h1, h2⟩
  go_wp2_with fail
  go_ret2
  exact ⟨rfl, h2⟩

set_option maxHeartbeats 1000000 in
theorem bitsLoad (n : Nat) (bs : List Nat) (a : Option Addr) (len c : Nat) (w : World) (h : n ≤ 65536) (hl : len = (n + 7) / 8) (hs : Sl w (.slice a len c) 1 len (byts bs)) (hb : ∀ x ∈ bs, x < 256) :
    Calls Try.prog 13 #[.int .i64 n, .slice a len c] w fun e w' => Mod (fun _ => False) w w' ∧
      (e = .returned (.tuple #[.pointer (some ⟨w.heap.size + 1, 0, none⟩), .int .i64 0]) ∧ BSet w' (w.heap.size + 1) w.heap.size n (ofB bs len) ∨
       e = .returned (.tuple #[.pointer none, .int .i64 2]) ∧ ∃ x, n ≤ x ∧ ofB bs len x = true) := by
  have h3 : (len : Int) = ((n : Int) + 7) / 8 := by omega
  have HS := Lib.hid hs
  have HB := Lib.hid hb
  have HL := Lib.hid hl
  clear hs hb
  go_enter Try.func13, Try.ntmps13
  go_wp2_with fail
  refine (bitsNew n _ h).mono ?_; rintro e w1 ⟨rfl, hb1, hm1⟩
  clear hl
  have HB1 := Lib.hid hb1
  clear hb1
  have h4 : ((n : Int) + 7) / 8 = len := by omega
  clear h3
  go_wp2_with fail
  obtain ⟨B, hB⟩ : ∃ B, B = w.heap.size := ⟨_, rfl⟩
  rw [← hB] at HB1 ⊢
  have HBB := Lib.hid hB
  clear hB h4
  go_loopw [26] (fun v wr => ∃ k : Nat, v = .int .i64 k ∧ k ≤ len ∧ Hid (BRaw wr (B + 1) B n (ofB bs k)) ∧ Mod (fun _ => False) w wr) (fun v _ => len - (intOf v).toNat)
  case atStart => exact ⟨0, rfl, Nat.zero_le _, by rw [ofB_zero]; exact HB1.out.toBRaw, hm1⟩
  case round =>
    obtain ⟨k, rfl, hk, hr, hm⟩ := hrel
    by_cases hlt : k < len
    · obtain ⟨x, c', hv, hcell0⟩ := HS.out.byt k hlt
      simp only [Value.slice.injEq] at hv
      obtain ⟨rfl, -, rfl⟩ := hv
      have hcell := hm.cell hcell0 (by simp)
      obtain ⟨q, hq⟩ : ∃ q : Nat, q = k / 8 := ⟨_, rfl⟩
      obtain ⟨r, hrr⟩ : ∃ r : Nat, r = k % 8 := ⟨_, rfl⟩
      obtain ⟨m, hmm⟩ : ∃ m, m = (n + 63) / 64 := ⟨_, rfl⟩
      have hln := HL.out
      have hqm : q < (n + 63) / 64 := by omega
      have hqm2 : q < m := by omega
      have htm : (k : Int).tmod 8 = r := by rw [Int.tmod_eq_emod_of_nonneg (by omega)]; omega
      have hsh : ∀ Z : Int, Op.shift .shl .u64 Z .i64 (8 * (r : Int)) = pure (.int .u64 (IntKind.u64.wrap (Z * 2 ^ (8 * r)))) := by
        intro Z
        rw [shift_shl_u64 .i64 Z (8 * (r : Int)) (by omega) (by omega)]
        have : (8 * (r : Int)).toNat = 8 * r := by omega
        rw [this]
      have hwq : IntKind.i64.wrap (q : Int) = q := by rw [IntKind.wrap_i64]; omega
      have hwr : IntKind.i64.wrap (r : Int) = r := by rw [IntKind.wrap_i64]; omega
      have hwr8 : IntKind.i64.wrap (8 * (r : Int)) = 8 * r := by rw [IntKind.wrap_i64]; omega
      obtain ⟨d1, d2⟩ := hr.out.word hqm
      obtain ⟨c1, d3⟩ := hr.out.s1
      rw [← hmm] at d3
      have hqq : (k : Int) / 8 = q := by omega
      have hrq : (k : Int) % 8 = r := by omega
      have hr8 : (r : Int) < 8 := by omega
      have hz : bs.getD k 0 < 256 := by
        rw [List.getD_eq_getElem?_getD]
        cases hkk : bs[k]? with
        | none => simp
        | some z => exact HB.out z (List.mem_of_getElem? hkk)
      have hstep := wd_ofB_in bs k hz
      have hnext : Hid (∀ v, v = .int .u64 (bits .or .u64 (wd (ofB bs k) q : Int) (IntKind.u64.wrap (((bs.getD k 0 : Nat) : Int) * 2 ^ (8 * r)))) → BRaw (wr.setCell ⟨B, q, none⟩ v) (B + 1) B n (ofB bs (k + 1))) := by
        intro v hv
        refine hr.out.put q v _ ?_ (fun y hy => wd_ofB_out bs k y (by omega))
        rw [hv, hq, hrr, hstep]
      generalize wd (ofB bs k) q = W at d1 hnext
      generalize bs.getD k 0 = z at hcell hnext hz
      have hwz : IntKind.u64.wrap (z : Int) = z := by rw [IntKind.wrap_u64]; omega
      have hlt' : (k : Int) < len := by omega
      have hk9 : (k : Int) ≤ 10000 := by omega
      clear hstep hq hrr hmm hln hcell0 hqm
      go_wp2_with fail
      refine wp_region_stages0 [0, 0, 0, 1, 0, 0, 0, 1, 0, 0, 0, 0, 0, 0, 0, 0, 2] (by kernel_rfl) (by kernel_rfl) ?_
      repeat (first | (refine stage_any (fun K hK => ?_); go_simp; refine hK _ _ ?_; clear hK K) | (refine stage_pin (fun K hK => ?_); go_simp; refine hK _ _ ?_; clear hK K))
      refine stage_eff (fun K hK => ?_); go_simp; refine eff_store ?_; refine hK _ _ ?_; clear hK K
      refine stage_nil ?_
      rintro _ ⟨nd, rfl⟩
      have hnx := hnext.out _ rfl
      have HNX := Lib.hid hnx
      clear hnx hnext
      go_wp2_with fail
      go_roundw
      case rel => exact ⟨k + 1, by go_num, by omega, HNX.out.drewN _, (hm.setCell (.inr (by show _ ≤ B; rw [HBB.out]; exact Nat.le_refl _)) _).drewN _⟩
      case measure => simp [intOf]; omega
    · have hkl : k = len := by omega
      subst hkl
      have d0 := hr.out.n0
      obtain ⟨c1, d3⟩ := hr.out.s1
      have hln := HL.out
      have hBB := HBB.out
      rcases Nat.eq_zero_or_pos n with hn0 | hn0
      · have hz0 : n = 0 := hn0
        have d3' : wr.cell? ⟨B + 1, 1, none⟩ = some (.slice (some ⟨B, 0, none⟩) 0 c1) := by rw [d3, hz0]
        clear d3 hn0
        have HZ := Lib.hid hz0
        clear hz0 hln hBB
        go_wp2_with fail
        go_quiet (fail)
        go_wp2_with fail
        go_ret2
        refine ⟨hm.drewN _, .inl ⟨by rw [← HBB.out]; rfl, ?_⟩⟩
        rw [← HBB.out]
        exact ⟨hr.out.drewN _, fun x hx => by unfold ofB; rw [show k = 0 by have := HL.out; have := HZ.out; omega]; simp⟩
      · obtain ⟨L, hL⟩ : ∃ L, L = (n + 63) / 64 - 1 := ⟨_, rfl⟩
        obtain ⟨m, hmm⟩ : ∃ m, m = (n + 63) / 64 := ⟨_, rfl⟩
        have hmsk := msk_none (ofB bs k) n L (by omega) (by omega)
        obtain ⟨d1, _⟩ := hr.out.word (k := L) (by omega)
        rw [← hmm] at d3
        have g1 : (m : Int) - 1 = L := by omega
        have g2 : L < m := by omega
        have g3 : 0 < m := by omega
        have g4 : IntKind.i64.wrap (L : Int) = L := by rw [IntKind.wrap_i64]; omega
        have MS := Lib.hid hmsk
        have hfar : ∀ x, 64 * L + 64 ≤ x → ofB bs k x = false := by
          intro x hx
          unfold ofB
          have : ¬ x < 8 * k := by omega
          simp [this]
        have HF := Lib.hid hfar
        generalize hX : bits .andNot .u64 (wd (ofB bs k) L : Int) (msk n : Int) = X at MS
        clear hmsk hmm hL hln hBB hfar
        have HR := hr.out
        have hXb : bits .andNot .u64 (wd (ofB bs k) L : Int) (msk n : Int) = X := hX
        clear hX
        generalize wd (ofB bs k) L = W at d1 hXb
        by_cases hX0 : X = 0
        · subst hX0
          go_wp2_with fail
          go_quiet ((go_at_call 34; exact Calls.quiet_of_same ((bitsMask _ _ _ _ _ (HR.drewN _)).mono fun _ _ ⟨a, b⟩ => ⟨a, b.symm⟩)))
          go_wp2_with fail
          go_ret2
          refine ⟨hm.drewN _, .inl ⟨by rw [← HBB.out]; rfl, ?_⟩⟩
          rw [← HBB.out]
          refine ⟨HR.drewN _, fun x hx => ?_⟩
          by_cases hx2 : x < 64 * L + 64
          · exact (MS.out.1 trivial) x hx hx2
          · exact HF.out x (by omega)
        · go_wp2_with fail
          go_quiet ((go_at_call 34; exact Calls.quiet_of_same ((bitsMask _ _ _ _ _ (HR.drewN _)).mono fun _ _ ⟨a, b⟩ => ⟨a, b.symm⟩)))
          go_wp2_with fail
          go_ret2
          refine ⟨hm.drewN _, .inr ⟨rfl, ?_⟩⟩
          refine Classical.byContradiction fun hno => hX0 (MS.out.2 fun x h1 _ => ?_)
          cases hx : ofB bs k x with
          | false => rfl
          | true => exact absurd ⟨x, h1, hx⟩ hno

/-- What Bytes tells. -/
def bytesOf (f : Nat → Bool) (n : Nat) : List Nat := (List.range ((n + 7) / 8)).map (byt f)
end Go.Proofs.Ytdlplablojdjlaa
