/- The walk of the statement RarestOwn: the call returns true and turns nothing that was there; no condition but the table. -/
import Derived.Test.YtegmgflplhpacaaDoorRaT
namespace Go.Proofs.YtegmgflplhpacaaDoor
open Go Go.RowKit

theorem IsRow.bytes {w : World} {a : Option Addr} {len cap : Nat} {zs : List Int} (h : IsRow .u8 w a len cap zs) : ∃ bs : List Nat, bs.length = len ∧ (∀ x ∈ bs, x < 256) ∧ Sl w (.slice a len cap) 1 len (byts bs) := by
  have hs := h.sl
  have hwf : ∀ n ∈ zs.take len, 0 ≤ n ∧ n < 256 := by
    intro n hn
    have hm : n ∈ zs := List.mem_of_mem_take hn
    rcases h with ⟨_, _, _, rfl⟩ | ⟨_, _, _, _, _, _, h⟩
    · cases hm
    · have := h n hm
      simp [Lit.wf, IntKind.min, IntKind.max, IntKind.signed, IntKind.bits] at this
      omega
  have hl := hs.len
  generalize zs.take len = xs at hs hwf hl
  refine ⟨xs.map Int.toNat, by simpa using hl, ?_, ?_⟩
  · intro x hx
    obtain ⟨n, hn, rfl⟩ := List.mem_map.1 hx
    have := hwf n hn
    omega
  · have : byts (xs.map Int.toNat) = xs.map (Value.int .u8) := by
      unfold byts
      rw [List.map_map]
      apply List.map_congr_left
      intro n hn
      have := hwf n hn
      show Value.int .u8 ((n.toNat : Nat) : Int) = _
      rw [Int.toNat_of_nonneg this.1]
    rw [this]; exact hs

theorem strB {w : World} {v : Value} {m : Nat} {bs : List Nat} (h : Sl w v 1 m (byts bs)) : (convert 33 9 v).run Tryd.prog w = .ok (.string (strOf bs)) w :=
  str_conv w 33 9 5 Tryd.underlying33 Tryd.underlying5 Tryd.underlying9 v m bs h
theorem Mod.bel {w w' : World} (h : Mod (fun _ => False) w w') : Below w.heap.size w w' := h.below (Nat.le_refl _) (fun _ h => h.elim)

set_option maxRecDepth 100000 in
set_option maxHeartbeats 4000000 in
theorem rarestOwn_walk (p : Int) (a1 : Option Addr) (len1 cap1 : Nat) (z1 : List Int) (w : World) (hT : TabW w) (_ : (Lit.int .i64 p).wf = true) (hz1 : IsRow .u8 w a1 len1 cap1 z1) :
    Calls Tryd.prog 4 #[.int .i64 p, .slice a1 len1 cap1] w fun e w' => e = .returned (.bool true) ∧ Below w.heap.size w w' := by
  refine Calls.mono (R := fun e w' => e = .returned (.bool true) ∧ Mod (fun _ => False) w w') ?_ (fun e w' ⟨h1, h2⟩ => ⟨h1, h2.bel⟩)
  obtain ⟨bs, hbl, hb, hs⟩ := hz1.bytes
  have HB := Lib.hid hb
  have HS := Lib.hid hs
  have HT := Lib.hid hT
  have HAW := Lib.hid (awake13 w hT)
  clear hz1 hb hs hT hbl
  by_cases hp1 : p < 1
  · go_enter Tryd.func4, Tryd.ntmps4
    go_wp2_with fail
    refine HAW.out.mono ?_; rintro e w1 ⟨rfl, m1⟩
    go_wp2_with fail
    go_ret
    exact ⟨rfl, m1⟩
  · by_cases hp2 : 100 < p
    · go_enter Tryd.func4, Tryd.ntmps4
      go_wp2_with fail
      refine HAW.out.mono ?_; rintro e w1 ⟨rfl, m1⟩
      go_wp2_with fail
      go_ret
      exact ⟨rfl, m1⟩
    · obtain ⟨n, rfl⟩ : ∃ n : Nat, p = (n : Int) := ⟨p.toNat, by omega⟩
      have hn : 1 ≤ n ∧ n ≤ 100 := by omega
      go_enter Tryd.func4, Tryd.ntmps4
      go_wp2_with fail
      refine HAW.out.mono ?_; rintro e w1 ⟨rfl, m1⟩
      have M1 := Lib.hid m1
      have HT1 := Lib.hid (HT.out.mod m1 (fun h => h))
      clear m1 HAW
      have HRN := Lib.hid (rareNew n 3 w1 (by unfold BoardOk; omega) HT1.out)
      go_wp2_with fail
      refine HRN.out.mono ?_; rintro e w2 ⟨rfl, h2, m2, z2⟩
      obtain ⟨b, hb⟩ : ∃ b, b = w1.heap.size + 2 := ⟨_, rfl⟩
      obtain ⟨M, hM⟩ : ∃ b, b = w1.heap.size := ⟨_, rfl⟩
      obtain ⟨g, hg⟩ : ∃ b, b = w1.heap.size + 1 := ⟨_, rfl⟩
      rw [← hb, ← hg, ← hM] at h2
      rw [← hb]
      have HW : Hid (w.heap.size ≤ M ∧ w.heap.size ≤ g) := by have := M1.out.size; show _ ∧ _; omega
      have HB2 := Lib.hid h2
      have M2 := Lib.hid (M1.out.trans m2)
      clear hb hM hg h2 m2 z2 HRN M1
      have HST := Lib.hid (setsOk n a1 len1 cap1 bs w2 (by omega) (HS.out.mod M2.out (fun _ _ _ _ h => h)) HB.out)
      go_wp2_with fail
      refine HST.out.mono ?_; rintro e w3 ⟨s, sg, r, rg, rfl, b3, _, m3, l3, _⟩
      obtain ⟨f, hf⟩ : ∃ f, f = F13 n bs := ⟨_, rfl⟩
      rw [← hf] at b3
      have X3 := Lib.hid b3
      have HP := Lib.hid (ApartO.fresh HB2.out l3.1 l3.2.1)
      have HSG := Lib.hid (show w.heap.size ≤ sg by have := M2.out.size; omega)
      have HB3 := Lib.hid (HB2.out.new m3)
      have M3 := Lib.hid (M2.out.trans m3)
      have HT3 := Lib.hid (HT.out.mod M3.out (fun h => h))
      clear b3 m3 l3 hf HST HB2 M2 HT1
      have HA := Lib.hid (rareSetNew 4 s sg b M g n 3 _ [] f w3 HB3.out X3.out HT3.out HP.out (by decide) (fun k => by decide) (by omega) (by decide) rfl (by decide))
      go_wp2_with fail
      refine HA.out.mono ?_; rintro e w4 ⟨x, y, rfl, h4, m4, lx, ly⟩
      have hap := HP.out
      have HB4 := Lib.hid h4
      have X4 := Lib.hid (X3.out.mod m4 (by have := hap M (.inr (.inl rfl)); have := hap g (.inr (.inr (.inl rfl))); omega) (by have := hap M (.inr (.inl rfl)); have := hap g (.inr (.inr (.inl rfl))); omega))
      have HT4 := Lib.hid (HT3.out.mod m4 (by have := HB3.out.tab M (.inr (.inl rfl)); have := HB3.out.tab g (.inr (.inr (.inl rfl))); omega))
      have M4 := Lib.hid (M3.out.new m4 (by intro i hi; have := HW.out; omega))
      have HXY := Lib.hid (show s < x ∧ sg < x ∧ s < y ∧ sg < y by have := X3.out.lt; omega)
      clear h4 m4 hap lx ly HA HB3 X3 HT3 M3
      have HBY := Lib.hid (bitsBytes s sg n f w4 X4.out.toBRaw)
      go_wp2_with fail
      refine HBY.out.mono ?_; rintro e w5 ⟨rfl, hsl5, m5, z5⟩
      have hcv := strB hsl5
      have HB5 := Lib.hid (HB4.out.new m5)
      have X5 := Lib.hid (X4.out.mod m5 (fun h => h) (fun h => h))
      have M5 := Lib.hid (M4.out.trans m5)
      have HFI := Lib.hid (bitsFill s sg n f 0 n true w5 X5.out (Nat.zero_le _) (Nat.le_refl _))
      clear hsl5 m5 z5 HB4 X4 M4 HBY HT4
      go_wp2_with fail
      refine HFI.out.mono ?_; rintro e w6 ⟨rfl, b6, m6⟩
      have hap := HP.out.put (peer := 4) (x := x) (y := y) (f := f) HXY.out
      have HB6 := Lib.hid (HB5.out.mod m6 (fun i hi e => (hap i hi).2 e))
      have M6 := Lib.hid (M5.out.new m6 (by intro i hi; have := HSG.out; omega))
      have HI := Lib.hid (i64_of (k := 4) (by decide) (by decide))
      have HO1 := Lib.hid (rareOf 4 ⟨x, y, f⟩ b M g n 3 _ _ w6 HB6.out HI.out rfl)
      clear hap b6 m6 hcv HB5 X5 M5 HFI
      go_wp2_with fail
      refine HO1.out.mono ?_; rintro e w7 ⟨x2, y2, rfl, b7, m7, l7, l7'⟩
      have X7 := Lib.hid b7
      have HB7 := Lib.hid (HB6.out.new m7)
      have M7 := Lib.hid (M6.out.trans m7)
      have HQ7 := Lib.hid (ApartO.fresh HB6.out l7 l7')
      have HY7 := Lib.hid (show w.heap.size ≤ y2 by have := M6.out.size; omega)
      have HBY := Lib.hid (bitsBytes x2 y2 n f w7 b7.toBRaw)
      clear b7 m7 l7 l7' HB6 M6 HO1
      go_wp2_with fail
      refine HBY.out.mono ?_; rintro e w8 ⟨rfl, hsl8, m8, z8⟩
      have hcv := strB hsl8
      have HB8 := Lib.hid (HB7.out.new m8)
      have X8 := Lib.hid (X7.out.mod m8 (fun h => h) (fun h => h))
      have M8 := Lib.hid (M7.out.trans m8)
      have HFI := Lib.hid (bitsFill x2 y2 n f 0 n false w8 X8.out (Nat.zero_le _) (Nat.le_refl _))
      clear hsl8 m8 z8 HB7 X7 M7 HBY
      go_wp2_with fail
      refine HFI.out.mono ?_; rintro e w9 ⟨rfl, b9, m9⟩
      have HB9 := Lib.hid (HB8.out.mod m9 (fun i hi e => (HQ7.out i hi).2 e))
      have M9 := Lib.hid (M8.out.new m9 (by intro i hi; have := HY7.out; omega))
      have HO1 := Lib.hid (rareOf 4 ⟨x, y, f⟩ b M g n 3 _ _ w9 HB9.out HI.out rfl)
      clear b9 m9 hcv HB8 X8 M8 HFI
      go_wp2_with fail
      refine HO1.out.mono ?_; rintro e w10 ⟨x3, y3, rfl, b10, m10, l10, l10'⟩
      have M10 := Lib.hid (M9.out.trans m10)
      have HBY := Lib.hid (bitsBytes x3 y3 n f w10 b10.toBRaw)
      clear b10 m10 l10 l10' HB9 M9 HO1
      go_wp2_with fail
      refine HBY.out.mono ?_; rintro e w11 ⟨rfl, hsl11, m11, z11⟩
      have hcv := strB hsl11
      have M11 := Lib.hid (M10.out.trans m11)
      clear hsl11 m11 z11 M10 HBY
      go_wp2_with fail
      go_ret
      exact ⟨by simp, M11.out⟩
end Go.Proofs.YtegmgflplhpacaaDoor
