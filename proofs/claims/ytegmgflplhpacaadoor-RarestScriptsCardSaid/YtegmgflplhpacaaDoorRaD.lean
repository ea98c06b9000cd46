/- The laws on rarest: sets; no condition. -/
import Derived.Test.YtegmgflplhpacaaDoorRaC
import Derived.Test.YtegmgflplhpacaaDoorBitsH
namespace Go.Proofs.YtegmgflplhpacaaDoor
open Go Go.RowKit

/-- The places that bytes have. -/
def F13 (n : Nat) (bs : List Nat) : Nat → Bool := fun x => decide (x < n) && decide (x / 8 < bs.length) && (bs.getD (x / 8) 0).testBit (x % 8)
def ofP (f : Nat → Bool) (k : Nat) : Nat → Bool := fun x => decide (x < k) && f x
theorem ofP_zero (f : Nat → Bool) : ofP f 0 = fun _ => false := by funext x; simp [ofP]
theorem ofP_step (f : Nat → Bool) (k : Nat) : fil (ofP f k) k (k + 1) (f k) = ofP f (k + 1) := by
  funext x
  unfold fil ofP
  by_cases h : k ≤ x ∧ x < k + 1
  · obtain rfl : x = k := by omega
    rw [if_pos h]
    simp
  · rw [if_neg h]
    by_cases h2 : x < k
    · simp [h2, show x < k + 1 by omega]
    · simp [h2, show ¬ x < k + 1 by omega]
theorem ofP_all {f : Nat → Bool} {k : Nat} (h : ∀ x, k ≤ x → f x = false) : ofP f k = f := by
  funext x
  unfold ofP
  by_cases h2 : x < k
  · simp [h2]
  · simp [h2, h x (by omega)]

/-- Two sets that were made. -/
def SetsP (n : Nat) (f : Nat → Bool) (w : World) (e : Ending) (w' : World) : Prop :=
  ∃ s sg r rg : Nat, e = .returned (.tuple #[.pointer (some ⟨s, 0, none⟩), .pointer (some ⟨r, 0, none⟩)]) ∧ BSet w' s sg n f ∧ RSet w' r rg n f ∧ Mod (fun _ => False) w w' ∧ (w.heap.size ≤ s ∧ w.heap.size ≤ sg ∧ w.heap.size ≤ r ∧ w.heap.size ≤ rg) ∧ (s < r ∧ s < rg ∧ sg < r ∧ sg < rg)
theorem and_bit8_all : ∀ z : Fin 256, ∀ r : Fin 8, decide (bits .and .u8 ((z.1 : Int) / 2 ^ r.1) 1 = 1) = z.1.testBit r.1 := by decide +kernel
theorem and_bit8 {z r : Nat} (hz : z < 256) (hr : r < 8) : decide (bits .and .u8 ((z : Int) / 2 ^ r) 1 = 1) = z.testBit r := and_bit8_all ⟨z, hz⟩ ⟨r, hr⟩
set_option maxRecDepth 100000 in
set_option maxHeartbeats 2000000 in
theorem setsOk (n : Nat) (a : Option Addr) (len cap : Nat) (bs : List Nat) (w : World) (hn : n ≤ 1100) (hs : Sl w (.slice a len cap) 1 len (byts bs)) (hb : ∀ x ∈ bs, x < 256) :
    Calls Tryd.prog 10 #[.int .i64 n, .slice a len cap] w (SetsP n (F13 n bs) w) := by
  have HS := Lib.hid hs
  have HB := Lib.hid hb
  have hlen : bs.length = len := by have := hs.len; simpa using this
  have HLN := Lib.hid hlen
  obtain ⟨f, hf⟩ : ∃ f, f = F13 n bs := ⟨_, rfl⟩
  rw [← hf]
  have HF := Lib.hid hf
  clear hs hb hlen hf
  go_enter Tryd.func10, Tryd.ntmps10
  go_wp2_with fail
  refine (bitsNew n _ (by omega)).mono ?_; rintro e w1 ⟨rfl, h1, m1⟩
  have B1 := Lib.hid h1
  have M1 := Lib.hid m1
  clear h1 m1
  go_wp2_with fail
  refine (refNew n _ (by omega)).mono ?_; rintro e w2 ⟨rfl, h2, m2⟩
  obtain ⟨s, hs⟩ : ∃ s, s = w.heap.size + 1 := ⟨_, rfl⟩
  obtain ⟨sg, hsg⟩ : ∃ s, s = w.heap.size := ⟨_, rfl⟩
  obtain ⟨r, hr⟩ : ∃ s, s = w1.heap.size + 1 := ⟨_, rfl⟩
  obtain ⟨rg, hrg⟩ : ∃ s, s = w1.heap.size := ⟨_, rfl⟩
  rw [← hs, ← hsg] at B1
  rw [← hr, ← hrg] at h2
  rw [← hs, ← hr]
  have hl1 := B1.out.lt
  have B2 := Lib.hid (B1.out.mod m2 (fun h => h) (fun h => h))
  have R2 := Lib.hid h2
  have M2 := Lib.hid (M1.out.trans m2)
  have HNE : Hid ((w.heap.size ≤ s ∧ w.heap.size ≤ sg ∧ w.heap.size ≤ r ∧ w.heap.size ≤ rg) ∧ (s < r ∧ s < rg ∧ sg < r ∧ sg < rg)) := by
    have := M1.out.size
    show (_ ∧ _ ∧ _ ∧ _) ∧ _ ∧ _ ∧ _ ∧ _
    omega
  have hn11 : ¬ (1100 : Int) < n := by omega
  clear hs hsg hr hrg hl1 h2 m2 B1 M1
  go_wp2_with fail
  go_loopw [10] (fun v wr => ∃ k : Nat, v = .int .i64 k ∧ k ≤ n ∧ Hid (BSet wr s sg n (ofP f k)) ∧ Hid (RSet wr r rg n (ofP f k)) ∧ Hid (Mod (fun _ => False) w wr)) (fun v _ => n - (intOf v).toNat)
  case atStart => exact ⟨0, rfl, Nat.zero_le _, by rw [ofP_zero]; exact B2, by rw [ofP_zero]; exact R2, M2⟩
  case round =>
    obtain ⟨k, rfl, hk, hB, hR, hm⟩ := hrel
    have hfin : (n ≤ k ∨ len ≤ k / 8) → ofP f k = f := by
      intro h
      refine ofP_all fun x hx => ?_
      rw [HF.out]
      unfold F13
      rw [HLN.out]
      rcases h with h | h
      · simp; omega
      · have : ¬ x / 8 < len := by omega
        simp [this]
    have HFIN := Lib.hid hfin
    clear hfin
    by_cases hlt : (k : Int) < n
    · by_cases hl8 : k / 8 < len
      · have hl8' : (k : Int) / 8 < len := by omega
        have hsl := (HS.out.mod hm.out (fun _ _ _ _ h => h)).byt (k / 8) hl8
        obtain ⟨x, c, hx, hc⟩ := hsl
        cases hx
        have hx256 : bs.getD (k / 8) 0 < 256 := by
          rw [List.getD_eq_getElem?_getD, List.getElem?_eq_getElem (by rw [HLN.out]; exact hl8)]
          exact HB.out _ (List.getElem_mem _)
        have hfk : f k = (bs.getD (k / 8) 0).testBit (k % 8) := by
          rw [HF.out]
          unfold F13
          rw [HLN.out]
          simp [hl8]
          omega
        obtain ⟨z, hz⟩ : ∃ z, z = bs.getD (k / 8) 0 := ⟨_, rfl⟩
        rw [← hz] at hc hx256 hfk
        obtain ⟨q, hq⟩ : ∃ q, q = k / 8 := ⟨_, rfl⟩
        obtain ⟨r8, hr8⟩ : ∃ r, r = k % 8 := ⟨_, rfl⟩
        have hb := and_bit8 hx256 (r := r8) (by omega)
        rw [← hr8] at hfk
        rw [← hfk] at hb
        have hb2 : (bits .and .u8 ((z : Int) / 2 ^ r8) 1 == 1) = f k := by rw [← hb]; rfl
        rw [← hq] at hc hl8
        have hqq : (k : Int) / 8 = q := by omega
        have htq : (k : Int).tdiv 8 = q := by rw [Int.tdiv_eq_ediv_of_nonneg (by omega)]; omega
        have htm : (k : Int).tmod 8 = r8 := by rw [Int.tmod_eq_emod_of_nonneg (by omega)]; omega
        have hem : (k : Int) % 8 = r8 := by omega
        have hwq : IntKind.i64.wrap (q : Int) = q := by unfold IntKind.wrap; simp [IntKind.bits, IntKind.signed]; omega
        have hwr : IntKind.i64.wrap (r8 : Int) = r8 := by unfold IntKind.wrap; simp [IntKind.bits, IntKind.signed]; omega
        have hwu : IntKind.u64.wrap (r8 : Int) = r8 := by unfold IntKind.wrap; simp [IntKind.bits, IntKind.signed]; omega
        have hql : (q : Int) < len := by omega
        have hsh : ∀ yk, Op.shift .shr .u8 (z : Int) yk (r8 : Int) = pure (.int .u8 ((z : Int) / 2 ^ r8)) := by
          intro yk
          have := shift_shr .u8 yk (z : Int) (r8 : Int) (by omega) (by show (r8 : Int) ≤ 8; omega)
          rw [Int.toNat_natCast] at this
          exact this
        have HP := Lib.hid (bitsPut s sg n (ofP f k) k (f k) wr hB.out (by omega))
        rw [ofP_step] at HP
        have HFK := Lib.hid hfk
        have hkn : k < n := by omega
        clear hz hfk hx256 hq hr8 hl8'
        obtain ⟨one, hone⟩ : ∃ o, o = f k := ⟨_, rfl⟩
        have HFK2 := Lib.hid hone
        rw [← hone] at HP hb hb2
        clear hone
        go_wp2_with fail
        refine HP.out.mono ?_; rintro e w3 ⟨rfl, h3, m3⟩
        have B3 := Lib.hid h3
        have R3 := Lib.hid (hR.out.mod m3 (by have := HNE.out; omega) (by have := HNE.out; omega))
        have M3 := Lib.hid (hm.out.new m3 (by intro i hi; have := HNE.out; omega))
        have HQ := Lib.hid (refPut r rg n (ofP f k) k one w3 R3.out hkn)
        rw [HFK2.out, ofP_step, ← HFK2.out] at HQ
        clear h3 m3
        go_wp2_with fail
        refine HQ.out.mono ?_; rintro e w4 ⟨rfl, h4, m4⟩
        have B4 := Lib.hid (B3.out.mod m4 (by have := HNE.out; omega) (by have := HNE.out; omega))
        have R4 := Lib.hid h4
        have M4 := Lib.hid (M3.out.new m4 (by intro i hi; have := HNE.out; omega))
        clear h4 m4
        go_wp2_with fail
        exact ⟨⟨k + 1, by go_num, by omega, B4, R4, M4⟩, by simp [intOf]; omega⟩
      · have hl8' : decide ((k : Int) / 8 < len) = false := by simp; omega
        have htq : (k : Int).tdiv 8 = (k : Int) / 8 := Int.tdiv_eq_ediv_of_nonneg (by omega)
        have hf := HFIN.out (.inr (by omega))
        rw [hf] at hB hR
        clear hf
        go_wp2_with fail
        go_ret2
        exact ⟨s, sg, r, rg, rfl, hB.out, hR.out, hm.out, HNE.out.1, HNE.out.2⟩
    · have hf := HFIN.out (.inl (by omega))
      rw [hf] at hB hR
      clear hf
      go_wp2_with fail
      go_ret2
      exact ⟨s, sg, r, rg, rfl, hB.out, hR.out, hm.out, HNE.out.1, HNE.out.2⟩
set_option maxRecDepth 100000 in
set_option maxHeartbeats 2000000 in
theorem setsNo (n : Int) (a : Option Addr) (len cap : Nat) (w : World) (hn : n < 0 ∨ 1100 < n) :
    Calls Tryd.prog 10 #[.int .i64 n, .slice a len cap] w fun e w' => e = .returned (.tuple #[.pointer none, .pointer none]) ∧ Mod (fun _ => False) w w' := by
  by_cases h : n < 0 ∨ 65536 < n
  · have HB := Lib.hid h
    clear hn h
    go_enter Tryd.func10, Tryd.ntmps10
    go_wp2_with fail
    refine (bitsNewBad n _ HB.out).mono ?_; rintro e w1 ⟨rfl, rfl⟩
    go_wp2_with fail
    refine (refNewBad n _ HB.out).mono ?_; rintro e w2 ⟨rfl, rfl⟩
    go_wp2_with fail
    go_ret2
    exact ⟨rfl, Mod.refl _ _⟩
  · obtain ⟨k, rfl⟩ : ∃ k : Nat, n = (k : Int) := ⟨n.toNat, by omega⟩
    have h11 : (1100 : Int) < k := by omega
    have hk : k ≤ 65536 := by omega
    clear hn h
    go_enter Tryd.func10, Tryd.ntmps10
    go_wp2_with fail
    refine (bitsNew k _ hk).mono ?_; rintro e w1 ⟨rfl, h1, m1⟩
    have M1 := Lib.hid m1
    clear h1 m1
    go_wp2_with fail
    refine (refNew k _ hk).mono ?_; rintro e w2 ⟨rfl, h2, m2⟩
    have M2 := Lib.hid (M1.out.trans m2)
    clear h2 m2
    go_wp2_with fail
    go_ret2
    exact ⟨rfl, M2.out⟩
end Go.Proofs.YtegmgflplhpacaaDoor
