/- Bytes as a string; Bytes of package bits; no condition. -/
import Derived.Test.YtdlplablojdjlaaBitsB
import Derived.Laws.BytesString
import Derived.Laws.Cells
namespace Go.Proofs.Ytdlplablojdjlaa
open Go Go.RowKit

/-- The string that bytes are. -/
def strOf (bs : List Nat) : ByteArray := ⟨(bs.map UInt8.ofNat).toArray⟩
theorem foldl_push (bs : List Nat) (s : ByteArray) : (bs.map (fun (n : Nat) => (n : Int))).foldl (fun r n => r.push (UInt8.ofNat n.toNat)) s = ⟨s.data ++ (bs.map UInt8.ofNat).toArray⟩ := by
  induction bs generalizing s with
  | nil => simp
  | cons b bs ih =>
    simp only [List.map_cons, List.foldl_cons]
    rw [ih]
    simp [ByteArray.push]
theorem str_conv {P : Program} (w : World) (src dst e : TypeId) (hs : P.underlying src = some (.slice e)) (he : P.underlying e = some (.int .u8)) (hd : P.underlying dst = some .string) (v : Value) (n : Nat) (bs : List Nat) (h : Sl w v 1 n (byts bs)) :
    (convert src dst v).run P w = .ok (.string (strOf bs)) w := by
  rcases h with ⟨rfl, rfl, hb⟩ | ⟨x, c, rfl, hl, hc⟩
  · rw [run_convert_bytes_string w src dst e none 0 0 hs he hd]
    have : bs = [] := by simpa using hb
    subst this
    rfl
  · rw [run_convert_bytes_string w src dst e _ _ _ hs he hd]
    have h1 := run_loadCells_list (P := P) w x (byts bs) hc
    have hn : (byts bs).length = n := by simpa using hl
    rw [hn] at h1
    rw [run_bytesToString w x n c (bs.map (fun (n : Nat) => (n : Int))) (by rw [h1, List.map_map]; rfl), foldl_push]
    simp [strOf]
theorem strOf_inj {a b : List Nat} (ha : ∀ x ∈ a, x < 256) (hb : ∀ x ∈ b, x < 256) (h : strOf a = strOf b) : a = b := by
  have h1 : a.map UInt8.ofNat = b.map UInt8.ofNat := by
    have := congrArg (fun s => s.data.toList) h
    simpa [strOf] using this
  have h2 := congrArg (List.map UInt8.toNat) h1
  rw [List.map_map, List.map_map] at h2
  have key : ∀ l : List Nat, (∀ x ∈ l, x < 256) → l.map (UInt8.toNat ∘ UInt8.ofNat) = l := by
    intro l hl
    conv => rhs; rw [← List.map_id l]
    apply List.map_congr_left
    intro x hx
    have := hl x hx
    simp [UInt8.toNat_ofNat']
    omega
  rwa [key a ha, key b hb] at h2
theorem str_eq {a b : List Nat} (ha : ∀ x ∈ a, x < 256) (hb : ∀ x ∈ b, x < 256) : ((strOf a).toList == (strOf b).toList) = decide (a = b) := by
  rw [ByteArray.toList_eq, ByteArray.toList_eq]
  by_cases h : a = b
  · subst h; simp
  · rw [decide_eq_false h, beq_eq_false_iff_ne]
    intro e
    have h2 : (strOf a).data = (strOf b).data := Array.toList_inj.1 e
    exact h (strOf_inj ha hb (by cases hx : strOf a; cases hy : strOf b; rw [hx, hy] at h2; simp at h2; rw [h2]))
theorem bytesOf_lt (f : Nat → Bool) (n : Nat) : ∀ x ∈ bytesOf f n, x < 256 := by
  intro x hx
  simp only [bytesOf, List.mem_map] at hx
  obtain ⟨k, _, rfl⟩ := hx
  exact byt_lt f k
theorem bytesOf_ofB (bs : List Nat) (n : Nat) (hl : bs.length = (n + 7) / 8) (hb : ∀ x ∈ bs, x < 256) : bytesOf (ofB bs ((n + 7) / 8)) n = bs := by
  apply List.ext_getElem?
  intro k
  rw [bytesOf, List.getElem?_map]
  by_cases hk : k < (n + 7) / 8
  · have hk2 : k < bs.length := by omega
    have e : bs.getD k 0 = bs[k] := by rw [List.getD_eq_getElem?_getD, List.getElem?_eq_getElem hk2]; rfl
    rw [List.getElem?_range hk, List.getElem?_eq_getElem hk2, Option.map_some, byt_ofB bs _ k hk (by rw [e]; exact hb _ (List.getElem_mem hk2)), e]
  · rw [List.getElem?_eq_none (by simpa using hk), List.getElem?_eq_none (by omega)]
    rfl

theorem infoU8 : (Try.prog.info? 5).map (fun i => (i.zero, i.size, i.bytes)) = some (some (.int .u8 0), 1, 1) := by kernel_rfl

set_option maxHeartbeats 1000000 in
theorem bitsBytes (b g n : Nat) (f : Nat → Bool) (w : World) (h : BRaw w b g n f) :
    Calls Try.prog 10 #[.pointer (some ⟨b, 0, none⟩)] w fun e w' => e = .returned (.slice (some ⟨w.heap.size, 0, none⟩) ((n + 7) / 8) ((n + 7) / 8)) ∧ Sl w' (.slice (some ⟨w.heap.size, 0, none⟩) ((n + 7) / 8) ((n + 7) / 8)) 1 ((n + 7) / 8) (byts (bytesOf f n)) ∧ Mod (fun _ => False) w w' ∧ w'.heap.size = w.heap.size + 1 := by
  obtain ⟨i0, hi, hz0, hz1, hz2⟩ := info_parts infoU8
  have hn := h.small
  have H := Lib.hid h
  have hlt := h.lt
  have HLT := Lib.hid hlt
  have c0 := h.n0
  have hmk := run_makeSlice (P := Try.prog) w 37 5 i0 (.int .u8 0) Try.underlying37 hi hz0 .i64 .i64 (((n : Int) + 7) / 8) (((n : Int) + 7) / 8) (by omega) (Int.le_refl _) (by rw [hz1]; omega) (by rw [hz2]; omega) (by omega)
  rw [hz1] at hmk
  have hm : (((n : Int) + 7) / 8).toNat = (n + 7) / 8 := by omega
  rw [hm] at hmk
  clear hi hz0 hz1 hz2 hm h hlt
  go_enter Try.func10, Try.ntmps10
  go_wp2_with fail
  obtain ⟨m, hmm⟩ : ∃ m, m = (n + 7) / 8 := ⟨_, rfl⟩
  rw [← hmm]
  have MM := Lib.hid hmm
  obtain ⟨B, hB⟩ : ∃ B, B = w.heap.size := ⟨_, rfl⟩
  rw [← hB]
  have HBB := Lib.hid hB
  clear hB hmm hmk
  go_loopw [14] (fun v wr => ∃ k : Nat, v = .int .i64 k ∧ k ≤ m ∧ Hid (∃ cs : Array Value, Blk wr B cs 5 ∧ cs.size = m ∧ ∀ j, j < k → cs[j]? = some (.int .u8 (byt f j : Nat))) ∧ Mod (fun _ => False) w wr ∧ wr.heap.size = B + 1) (fun v _ => m - (intOf v).toNat)
  case atStart => exact ⟨0, rfl, Nat.zero_le _, ⟨_, by have := Blk.new w (madeCells #[Value.int .u8 0] m) 5; rw [← HBB.out] at this; exact this, size_madeCells _ _, fun j hj => by omega⟩, (Mod.refl _ w).alloc _, by rw [HBB.out]; simp⟩
  case round =>
    obtain ⟨k, rfl, hk, ⟨cs, hcs, hcz, hck⟩, hmr, hBs⟩ := hrel
    by_cases hlt : k < m
    · have hMM := MM.out
      have hHL := HLT.out
      have hBBB := HBB.out
      have HR := H.out.mod hmr (fun h => h) (fun h => h)
      obtain ⟨q, hq⟩ : ∃ q : Nat, q = k / 8 := ⟨_, rfl⟩
      obtain ⟨r, hrr⟩ : ∃ r : Nat, r = k % 8 := ⟨_, rfl⟩
      obtain ⟨l, hll⟩ : ∃ l, l = (n + 63) / 64 := ⟨_, rfl⟩
      have hql : q < (n + 63) / 64 := by omega
      have hqm2 : q < l := by omega
      have hlt1 : (k : Int) < ((n : Int) + 7) / 8 := by omega
      have hk9 : (k : Int) ≤ 10000 := by omega
      obtain ⟨d1, d2⟩ := HR.word hql
      obtain ⟨c1, d3⟩ := HR.s1
      rw [← hll] at d3
      have hqq : (k : Int) / 8 = q := by omega
      have htm : (k : Int).tmod 8 = r := by rw [Int.tmod_eq_emod_of_nonneg (by omega)]; omega
      have hem : (k : Int) % 8 = r := by omega
      have hsh : ∀ Z : Int, Op.shift .shr .u64 Z .i64 (8 * (r : Int)) = pure (.int .u64 (Z / 2 ^ (8 * r))) := by
        intro Z
        rw [shift_shr_u64 .i64 Z (8 * (r : Int)) (by omega) (by omega)]
        have : (8 * (r : Int)).toNat = 8 * r := by omega
        rw [this]
      have hwq : IntKind.i64.wrap (q : Int) = q := by rw [IntKind.wrap_i64]; omega
      have hwr : IntKind.i64.wrap (r : Int) = r := by rw [IntKind.wrap_i64]; omega
      have hwr8 : IntKind.i64.wrap (8 * (r : Int)) = 8 * r := by rw [IntKind.wrap_i64]; omega
      have hby : IntKind.u8.wrap ((wd f q : Int) / 2 ^ (8 * r)) = (byt f k : Int) := by rw [hq, hrr]; exact byt_eq f k
      have hfr : wr.frozen? ⟨B, k, none⟩ = false := hcs.frozen k
      have hce : ∃ u, wr.cell? ⟨B, k, none⟩ = some u := by rw [hcs.cell]; exact ⟨_, Array.getElem?_eq_getElem (by omega)⟩
      obtain ⟨u, hu⟩ := hce
      generalize wd f q = W at d1 hby
      have HCS := Lib.hid hcs
      have HCK := Lib.hid hck
      have HCZ := Lib.hid hcz
      clear hq hrr hll hql hMM hHL hBBB HR hcs hck hcz
      go_wp2_with fail
      refine ⟨⟨k + 1, by go_num, by omega, ⟨_, HCS.out.set k _, by simpa using HCZ.out, fun j hj => ?_⟩, hmr.setCell (.inr (by show _ ≤ B; rw [HBB.out]; exact Nat.le_refl _)) _, by simpa using hBs⟩, by simp [intOf]; omega⟩
      by_cases e : j = k
      · subst e
        rw [Array.getElem?_setIfInBounds_self_of_lt (by rw [HCZ.out]; exact hlt)]
      · rw [Array.getElem?_setIfInBounds_ne (Ne.symm e)]
        exact HCK.out j (by omega)
    · have hkm : k = m := by omega
      have hge : ¬ ((k : Int) < ((n : Int) + 7) / 8) := by have := MM.out; omega
      have HCS := Lib.hid hcs
      have HCK := Lib.hid hck
      have HCZ := Lib.hid hcz
      have HKM := Lib.hid hkm
      clear hcs hck hcz hlt hkm
      go_wp2_with fail
      go_ret
      rw [← HBB.out, ← MM.out]
      have hl : (byts (bytesOf f n)).length = m := by rw [MM.out]; simp [bytesOf]
      refine ⟨rfl, .inr ⟨_, _, rfl, by rw [hl, Nat.mul_one], fun j u hj => ?_⟩, hmr, hBs⟩
      have hjm : j < m := by rw [← hl]; exact (List.getElem?_eq_some_iff.1 hj).1
      have hadd : (⟨B, 0, none⟩ : Addr).add j = ⟨B, j, none⟩ := by unfold Addr.add; split <;> simp_all
      rw [hadd, HCS.out.cell, HCK.out j (by rw [HKM.out]; exact hjm)]
      rw [← hj]
      unfold bytesOf
      rw [List.getElem?_map, List.getElem?_map, List.getElem?_range (by rw [← MM.out]; exact hjm)]
      rfl
end Go.Proofs.Ytdlplablojdjlaa
