/- The laws on rarest: one that lives; no condition but the table. -/
import Derived.Test.YtegmgflplhpacaaDoorRaD
namespace Go.Proofs.YtegmgflplhpacaaDoor
open Go Go.RowKit

theorem ApartO.fresh {w : World} {b M g n : Nat} {most : Int} {c : Nat → Int} {ks : List (Int × Ow)} (h : BD w b M g n most c ks) {s sg : Nat} (h1 : w.heap.size ≤ s) (h2 : w.heap.size ≤ sg) : ApartO b M g ks s sg := fun i hi => by have := h.lt hi; omega
theorem ApartO.put {b M g : Nat} {ks : List (Int × Ow)} {s sg : Nat} (h : ApartO b M g ks s sg) {peer : Int} {x y : Nat} {f : Nat → Bool} (hx : s < x ∧ sg < x ∧ s < y ∧ sg < y) : ApartO b M g (putL ks peer ⟨x, y, f⟩) s sg := by
  intro i hi
  rcases hi with rfl | rfl | rfl | ⟨q, hq, e⟩
  · exact h _ (.inl rfl)
  · exact h _ (.inr (.inl rfl))
  · exact h _ (.inr (.inr (.inl rfl)))
  · rcases mem_putO hq with rfl | hq
    · simp only at e
      omega
    · exact h _ (.inr (.inr (.inr ⟨q, hq, e⟩)))
theorem byt1 (w : World) (x : Nat) : Sl (w.alloc (.cells #[.int .u8 (x : Int)] 5)) (.slice (some ⟨w.heap.size, 0, none⟩) 1 1) 1 1 (byts [x]) := sl_new w #[.int .u8 (x : Int)] 5
theorem bd_low {w : World} {b M g n : Nat} {most : Int} {c : Nat → Int} {ks : List (Int × Ow)} (h : BD w b M g n most c ks) : ∀ q ∈ ks, q.2.s < w.heap.size ∧ q.2.g < w.heap.size := fun q hq => ⟨(h.sets q hq).lt.1, (h.sets q hq).lt.2⟩
theorem cnK_bd {c : Nat → Int} {f : Nat → Bool} {d : Int} {k : Nat} {B : Int} (h : ∀ j, -B ≤ c j ∧ c j ≤ B) (hd : -1 ≤ d ∧ d ≤ 1) : ∀ j, -(B + 1) ≤ cnK c f d k j ∧ cnK c f d k j ≤ B + 1 := by
  intro j
  have := h j
  unfold cnK
  split <;> omega
set_option maxRecDepth 100000 in
set_option maxHeartbeats 4000000 in
theorem awake13 (w : World) (hT : TabW w) :
    Calls Tryd.prog 8 #[] w fun e w' => e = .returned (.bool true) ∧ Mod (fun _ => False) w w' := by
  have HT0 := Lib.hid hT
  have HRN := Lib.hid (rareNew 2 3 w (by decide) hT)
  clear hT
  go_enter Tryd.func8, Tryd.ntmps8
  go_wp2_with fail
  refine HRN.out.mono ?_; rintro e w1 ⟨rfl, h1, m1, z1⟩
  obtain ⟨b, hb⟩ : ∃ b, b = w.heap.size + 2 := ⟨_, rfl⟩
  obtain ⟨M, hM⟩ : ∃ b, b = w.heap.size := ⟨_, rfl⟩
  obtain ⟨g, hg⟩ : ∃ b, b = w.heap.size + 1 := ⟨_, rfl⟩
  rw [← hb, ← hg, ← hM] at h1
  rw [← hb]
  have HW : Hid (w.heap.size ≤ M ∧ w.heap.size ≤ g) := by show _ ∧ _; omega
  have HB1 := Lib.hid h1
  have M1 := Lib.hid m1
  clear hb hM hg h1 m1 z1 HRN
  have ma := (Mod.refl (fun _ => False) w1).alloc (.cells #[.int .u8 3] 5)
  have HB1a := Lib.hid (HB1.out.new ma)
  have M1a := Lib.hid (M1.out.trans ma)
  have HS1 : Hid (Calls Tryd.prog 10 #[.int .i64 2, .slice (some ⟨w1.heap.size, 0, none⟩) 1 1] (w1.alloc (.cells #[.int .u8 3] 5)) (SetsP 2 (F13 2 [3]) (w1.alloc (.cells #[.int .u8 3] 5)))) := setsOk 2 (some ⟨w1.heap.size, 0, none⟩) 1 1 [3] _ (by decide) (byt1 w1 3) (by decide)
  clear ma
  go_wp2_with fail
  refine HS1.out.mono ?_; rintro e w2 ⟨s1, g1, r1, q1, rfl, b1, _, m2, l1, _⟩
  have X1 := Lib.hid b1
  have HB2 := Lib.hid (HB1a.out.new m2)
  have M2 := Lib.hid (M1a.out.trans m2)
  have HP1 := Lib.hid (ApartO.fresh HB1a.out l1.1 l1.2.1)
  clear b1 m2 l1 HS1 HB1 HB1a M1 M1a
  have ma := (Mod.refl (fun _ => False) w2).alloc (.cells #[.int .u8 1] 5)
  have HB2a := Lib.hid (HB2.out.new ma)
  have M2a := Lib.hid (M2.out.trans ma)
  have X1a := Lib.hid (X1.out.mod ma (fun h => h) (fun h => h))
  have HS2 : Hid (Calls Tryd.prog 10 #[.int .i64 2, .slice (some ⟨w2.heap.size, 0, none⟩) 1 1] (w2.alloc (.cells #[.int .u8 1] 5)) (SetsP 2 (F13 2 [1]) (w2.alloc (.cells #[.int .u8 1] 5)))) := setsOk 2 (some ⟨w2.heap.size, 0, none⟩) 1 1 [1] _ (by decide) (byt1 w2 1) (by decide)
  clear ma
  go_wp2_with fail
  refine HS2.out.mono ?_; rintro e w3 ⟨s2, g2, r2, q2, rfl, b2, _, m3, l2, _⟩
  have X2 := Lib.hid b2
  have X1b := Lib.hid (X1a.out.mod m3 (fun h => h) (fun h => h))
  have HB3 := Lib.hid (HB2a.out.new m3)
  have M3 := Lib.hid (M2a.out.trans m3)
  have HP2 := Lib.hid (ApartO.fresh HB2a.out l2.1 l2.2.1)
  clear b2 m3 l2 HS2 HB2 HB2a M2 M2a X1 X1a
  have HS3 : Hid (Calls Tryd.prog 10 #[.int .i64 2, .slice none 0 0] w3 (SetsP 2 (F13 2 []) w3)) := setsOk 2 none 0 0 [] w3 (by decide) (Sl.nil _ _) (by decide)
  go_wp2_with fail
  refine HS3.out.mono ?_; rintro e w4 ⟨s3, g3, r3, q3, rfl, b3, _, m4, l3, _⟩
  have X3 := Lib.hid b3
  have X2a := Lib.hid (X2.out.mod m4 (fun h => h) (fun h => h))
  have X1c := Lib.hid (X1b.out.mod m4 (fun h => h) (fun h => h))
  have HP3 := Lib.hid (ApartO.fresh HB3.out l3.1 l3.2.1)
  have HB4 := Lib.hid (HB3.out.new m4)
  have M4 := Lib.hid (M3.out.trans m4)
  have HT4 := Lib.hid (HT0.out.mod M4.out (fun h => h))
  clear b3 m4 l3 HS3 HB3 M3 X1b X2
  have HA := Lib.hid (rareSetNew 1 s1 g1 b M g 2 3 _ [] _ w4 HB4.out X1c.out HT4.out HP1.out (by decide) (fun k => by decide) (by decide) (by decide) rfl (by decide))
  go_wp2_with fail
  refine HA.out.mono ?_; rintro e w5 ⟨x1, y1, rfl, h5, m5, lx1, ly1⟩
  have HB5 := Lib.hid h5
  have hmg : ∀ (Q : Nat → Prop), (∀ i, (i = M ∨ i = g) → ¬ Q i) → ∀ i, Q i → ¬ (i = M ∨ i = g) := fun Q h i hq e => h i e hq
  have X2b := Lib.hid (X2a.out.mod m5 (by have := HP2.out M (.inr (.inl rfl)); have := HP2.out g (.inr (.inr (.inl rfl))); omega) (by have := HP2.out M (.inr (.inl rfl)); have := HP2.out g (.inr (.inr (.inl rfl))); omega))
  have X3b := Lib.hid (X3.out.mod m5 (by have := HP3.out M (.inr (.inl rfl)); have := HP3.out g (.inr (.inr (.inl rfl))); omega) (by have := HP3.out M (.inr (.inl rfl)); have := HP3.out g (.inr (.inr (.inl rfl))); omega))
  have HT5 := Lib.hid (HT4.out.mod m5 (by have := HB4.out.tab M (.inr (.inl rfl)); have := HB4.out.tab g (.inr (.inr (.inl rfl))); omega))
  have M5 := Lib.hid (M4.out.new m5 (by intro i hi; have := HW.out; omega))
  have HP2b := Lib.hid (HP2.out.put (peer := 1) (x := x1) (y := y1) (f := F13 2 [3]) (by have := X2a.out.lt; omega))
  clear h5 m5 hmg HA X2a X3 X1c HT4 M4
  have HA := Lib.hid (rareSetNew 2 s2 g2 b M g 2 3 _ _ _ w5 HB5.out X2b.out HT5.out HP2b.out (by decide) (fun k => by have := cnK_bd (c := fun _ => 0) (f := F13 2 [3]) (d := 1) (k := 2) (B := 0) (fun _ => by decide) (by decide) k; omega) (by decide) (show (1 : Nat) ≤ 1000 by decide) rfl (show ((1 : Nat) : Int) < 3 by decide))
  go_wp2_with fail
  refine HA.out.mono ?_; rintro e w6 ⟨x2, y2, rfl, h6, m6, lx2, ly2⟩
  have HB6 := Lib.hid h6
  have X3c := Lib.hid (X3b.out.mod m6 (by have := HP3.out M (.inr (.inl rfl)); have := HP3.out g (.inr (.inr (.inl rfl))); omega) (by have := HP3.out M (.inr (.inl rfl)); have := HP3.out g (.inr (.inr (.inl rfl))); omega))
  have HT6 := Lib.hid (HT5.out.mod m6 (by have := HB5.out.tab M (.inr (.inl rfl)); have := HB5.out.tab g (.inr (.inr (.inl rfl))); omega))
  have M6 := Lib.hid (M5.out.new m6 (by intro i hi; have := HW.out; omega))
  clear h6 m6 HA X3b HT5 M5
  have HPK := Lib.hid (rarePick 1 5 ⟨x1, y1, F13 2 [3]⟩ s3 g3 b M g 2 3 _ _ _ w6 HB6.out X3c.out HT6.out (i64_of (by decide) (by decide)) rfl (by decide))
  rw [show pickR (cnK (cnK (fun _ => 0) (F13 2 [3]) 1 2) (F13 2 [1]) 1 2) (fLess (F13 2 [3]) (F13 2 [])) 2 5 = 1 by decide +kernel] at HPK
  go_wp2_with fail
  refine HPK.out.mono ?_; rintro e w7 ⟨rfl, m7⟩
  have HB7 := Lib.hid (HB6.out.new m7)
  have M7 := Lib.hid (M6.out.trans m7)
  have HHW := Lib.hid (rareHow 0 b M g 2 3 _ _ w7 HB7.out)
  rw [show cntR (cnK (cnK (fun _ => 0) (F13 2 [3]) 1 2) (F13 2 [1]) 1 2) 2 0 = 2 by decide +kernel] at HHW
  clear m7 HPK
  go_wp2_with fail
  refine HHW.out.mono ?_; rintro e w8 ⟨rfl, rfl⟩
  go_wp2_with fail
  go_ret
  exact ⟨rfl, M7.out⟩
end Go.Proofs.YtegmgflplhpacaaDoor
