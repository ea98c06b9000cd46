/- Package member: ids of those that are not dead, Probe, for any seed; no condition. -/
import Derived.Test.YtagiodagbfahpaaMbP
import Derived.Test.YtagiodagbfahpaaRange
import Derived.Sort.OwnSortedInts
namespace Go.Proofs.Ytagiodagbfahpaa
open Go Go.RowKit

theorem perm_del {α : Type} {x : Int} {r : α} : ∀ {td : List (Int × α)}, Rising td → (x, r) ∈ td → td.Perm ((x, r) :: delL td x)
  | [], _, h => by simp at h
  | q :: t, hr, h => by
    obtain ⟨h1, h2⟩ := List.pairwise_cons.1 hr
    by_cases e : q.1 = x
    · have hq : q = (x, r) := by
        rcases List.mem_cons.1 h with h | h
        · exact h.symm
        · have := h1 _ h
          simp only at this
          omega
      have hd : delL (q :: t) x = t := by
        unfold delL
        rw [List.filter_cons, if_neg (by simp [e]), List.filter_eq_self]
        intro y hy
        have := h1 y hy
        simp
        omega
      rw [hd, hq]
    · have ht : (x, r) ∈ t := by
        rcases List.mem_cons.1 h with h | h
        · exact absurd (by rw [← h]) e
        · exact h
      have hd : delL (q :: t) x = q :: delL t x := by
        unfold delL
        rw [List.filter_cons, if_pos (by simpa using e)]
      rw [hd]
      exact ((perm_del h2 ht).cons q).trans (List.Perm.swap _ _ _)
/-- Those that are not dead. -/
def aliveL (ks : List (Int × Rc)) : List (Int × Rc) := ks.filter fun q => !(q.2.u == 3)
theorem alive_del {td : List (Int × Rc)} (hr : Rising td) {x : Int} {r : Rc} (h : (x, r) ∈ td) : (keysL (aliveL td)).Perm ((if r.u = 3 then [] else [x]) ++ keysL (aliveL (delL td x))) := by
  have h1 := ((perm_del hr h).filter fun q => !(q.2.u == 3)).map (·.1)
  unfold aliveL keysL
  refine h1.trans ?_
  by_cases e : r.u = 3
  · rw [if_pos e, List.filter_cons, if_neg (by simp [e])]; exact List.Perm.refl _
  · rw [if_neg e, List.filter_cons, if_pos (by simp [e])]; exact List.Perm.refl _
theorem mem_mp {ks : List (Int × Rc)} {x : Int} {c : Value} (h : (x, c) ∈ mp ks) : ∃ r, (x, r) ∈ ks ∧ c = rcv x r := by
  obtain ⟨q, hq, e⟩ := List.mem_map.1 h
  obtain ⟨k, r⟩ := q
  simp only [Prod.mk.injEq] at e
  obtain ⟨rfl, rfl⟩ := e
  exact ⟨r, hq, rfl⟩

theorem IRange.leftM {P : Program} {K : TypeId} {w w' : World} {b r : Nat} {l todo : List (Int × Value)} {S : Nat → Prop} (h : IRange P K w b r l todo) (hm : Mod S w w') (hb : ¬ S b) (hr : ¬ S r) : w'.rangeLeft b r = w.rangeLeft b r := by
  obtain ⟨left, cnt, h1, _⟩ := h.run
  obtain ⟨es, clock, since, seen, c0, g1, _, _, _, g5, _⟩ := h1
  unfold World.rangeLeft
  rw [hm.heap g1 hb, hm.heap g5 hr, g1, g5]
set_option maxRecDepth 100000 in
theorem memAlive (x : Int) (r : Rc) (w : World) :
    Calls Try.prog 43 #[.agg #[.int .i64 x, .int .i64 r.s, .int .i64 r.u, .int .i64 r.b]] w fun e w' => e = .returned (.bool (!(r.u == 3))) ∧ Mod (fun _ => False) w w' := by
  go_enter Try.func43, Try.ntmps43
  go_wp2_with fail
  go_ret
  exact ⟨by cases h : (r.u == 3) <;> simp [bne, h], (Mod.refl _ w).alloc _⟩

set_option maxRecDepth 100000 in
set_option maxHeartbeats 2000000 in
theorem memIds (b M : Nat) (S : Int × Rc) (most : Int) (ks : List (Int × Rc)) (w : World) (h : VW w b M S most ks) (hlen : ks.length ≤ 1000) :
    Calls Try.prog 42 #[.pointer (some ⟨b, 0, none⟩), .func (.func 43) #[] #[]] w fun e w' => (∃ v, e = .returned v ∧ w'.ownsRow w.heap.size 3 1 v (aliveL ks).length (ints (keysL (aliveL ks)))) ∧ Mod (fun _ => False) w w' := by
  have c3 : w.cell? ⟨b, 5, none⟩ = some (.map (some M)) := h.head.cell 5
  have hM := h.lt
  have hri := rising_mp.1 h.map.rising
  have HM := Lib.hid h.map
  have HRI := Lib.hid hri
  have hal : (aliveL ks).length ≤ ks.length := List.length_filter_le _ _
  clear h hri
  go_enter Try.func42, Try.ntmps42
  go_wp2_with (at_range; refine range_start rfl _ rfl Try.underlying3 Try.underlying64 rfl HM.out ?_; intro w0 hr0 m0 z0)
  obtain ⟨B, hB⟩ : ∃ B, B = w.heap.size := ⟨_, rfl⟩
  rw [← hB] at hr0 hM ⊢
  have HR0 := Lib.hid hr0
  have HB := Lib.hid hB
  have HZ := Lib.hid z0
  clear hr0 c3 hB z0
  go_frame
  go_loopw [5] (fun v wr => ∃ (zs : List Int) (td : List (Int × Rc)), zs.length ≤ 1000 ∧ Hid ((zs ++ keysL (aliveL td)).Perm (keysL (aliveL ks))) ∧ Hid (Rising td) ∧ Hid (IRange Try.prog 3 wr M B (mp ks) (mp td)) ∧ Hid (wr.ownsRow w0.heap.size 3 1 v zs.length (ints zs)) ∧ Mod (· = B) w0 wr) (fun _ wr => wr.rangeLeft M B)
  case atStart => exact ⟨[], ks, Nat.zero_le _, List.Perm.refl _, HRI, HR0, World.ownsRow_nil _ _ _ _, Mod.refl _ _⟩
  case round =>
    obtain ⟨zs, td, hzl, hsum, hrt, hrg, hown, hm⟩ := hrel
    go_wp2_with (at_next; refine range_next rfl _ rfl Try.underlying3 rfl hrg.out ?_ ?_)
    · intro hnil
      have htd : td = [] := by simpa [mp] using hnil
      have hfin : zs.Perm (keysL (aliveL ks)) := by have := hsum.out; rw [htd] at this; simpa [aliveL, keysL] using this
      have HF := Lib.hid (sort_keys (HRI.out.filter _) hfin)
      have HFL := Lib.hid (show zs.length = (aliveL ks).length by have := hfin.length_eq; simpa [keysL] using this)
      have HM2 := Lib.hid (m0.new hm (by intro i hi; have := HB.out; omega))
      clear hnil htd hfin hsum hrt hrg hzl
      have hmax : (aliveL ks).length ≤ 1000 := by omega
      obtain ⟨hol, ho2⟩ := hown.out
      rcases ho2 with ⟨rfl, h0⟩ | ⟨g, cap, cur, rfl, hg, hh, hcap, hcm, hcs, htk⟩
      · have hz : (aliveL ks).length = 0 := by rw [← HFL.out]; exact h0
        have HZ2 := Lib.hid hz
        clear hol h0 hz hown hm
        go_wp2_with fail
        refine (Try.slices_Sort_int_none none 0 wr).mono ?_; rintro e w2 ⟨rfl, rfl⟩
        go_wp2_with fail
        go_ret
        refine ⟨⟨_, rfl, ?_⟩, HM2.out⟩
        rw [HZ2.out, show keysL (aliveL ks) = [] from List.length_eq_zero_iff.1 (by simpa [keysL] using HZ2.out)]
        exact World.ownsRow_nil _ _ _ _
      · have hHo := holds_of_blockI (w := wr) (g := g) (ss := zs) hh (by simpa using htk)
        have HS := Lib.hid (Try.slices_Sort_int g 0 cap zs wr hHo (Array.getElem?_eq_some_iff.1 hh).1 (by rw [HFL.out]; omega))
        have HOW := Lib.hid (fun (n : Nat) (os : Array Obj) => ownsRow_sortedI (w := wr) (base := w.heap.size) (g := g) (cap := cap) (n := n) (os := os) (cur := cur) (e := 3) (ss := zs) (ts := zs.mergeSort fun x y => decide (x ≤ y)) (by simp) (by have := HM2.out.size; have := HZ.out; omega) hh hcap hcm (by simpa using hcs))
        have HGW := Lib.hid (fun (n : Nat) (os : Array Obj) => (grownBy_sortedI (w := wr) (g := g) (n := n) (os := os) (zs.mergeSort fun x y => decide (x ≤ y)).toArray))
        have HGG := Lib.hid (show w.heap.size ≤ g by have := HZ.out; omega)
        rw [HF.out] at HOW
        rw [HF.out] at HGW
        clear hol hh hcap hcm hcs htk hHo hown hm hg
        go_wp2_with fail
        refine HS.out.mono ?_; rintro e w2 ⟨rfl, n, os, hw2⟩
        rw [HF.out] at hw2
        have O2 := Lib.hid (HOW.out n os)
        have M2 := Lib.hid (HM2.out.grown (HGW.out n os) (fun k hk => by cases hk; exact .inr HGG.out))
        rw [← hw2] at O2 M2
        clear hw2 HOW HGW HS
        go_wp2_with fail
        go_ret
        refine ⟨⟨_, rfl, ?_⟩, M2.out⟩
        rw [← HFL.out]
        exact O2.out
    · intro x v w1 hx hmem hmem2 hrg1 hlt hm1 hz1 hen
      obtain ⟨r, hr, rfl⟩ := mem_mp hmem
      have hrg1' : IRange Try.prog 3 w1 M B (mp ks) (mp (delL td x)) := by rw [← del_mp]; exact hrg1
      have hdel := alive_del hrt.out hr
      have hrt1 := rising_del hrt.out x
      have hen' := hen
      unfold rcv at hen'
      have HS := Lib.hid hsum.out
      have HD := Lib.hid hdel
      have HRG := Lib.hid hrg1'
      have HRT := Lib.hid hrt1
      have HLT := Lib.hid hlt
      have hmm := hm.trans hm1
      have ho1 := owns_modG hown.out hm1 (fun i hi => by have := HB.out; have := HZ.out; omega)
      have hze := hsum.out.length_eq
      rw [List.length_append] at hze
      have hze2 := hdel.length_eq
      have hkl : (keysL (aliveL ks)).length = (aliveL ks).length := by simp [keysL]
      unfold rcv
      have HOW := Lib.hid ho1
      have HMM := Lib.hid hmm
      have HW0 := Lib.hid (show w0.heap.size ≤ w1.heap.size ∧ M < w0.heap.size ∧ B < w0.heap.size by have := hmm.size; have := HB.out; have := HZ.out; omega)
      clear hmem hmem2 hrg1 hrg1' hlt hdel hrt1 hen hm hm1 hz1 hr hsum hown ho1 hmm
      have ma : Mod (fun _ => False) w1 (w1.alloc (.cells #[.int .i64 x, .int .i64 r.s, .int .i64 r.u, .int .i64 r.b] TMb)) := (Mod.refl _ w1).alloc _
      have XA := Lib.hid (Blk.new w1 #[.int .i64 x, .int .i64 r.s, .int .i64 r.u, .int .i64 r.b] TMb)
      have MA := Lib.hid ma
      clear ma
      by_cases e : r.u = 3
      · have e' : (r.u == 3) = true := by simpa using e
        have hd1 := HD.out
        rw [if_pos e] at hd1
        have HSUM := Lib.hid (show (zs ++ keysL (aliveL (delL td x))).Perm (keysL (aliveL ks)) from (hd1.append_left zs).symm.trans HS.out)
        have HCL := Lib.hid (memAlive x r)
        rw [e'] at HCL
        clear hd1 e e' hze2
        go_upto_region 5 with fail
        generalize w1.alloc (.cells #[.int .i64 x, .int .i64 r.s, .int .i64 r.u, .int .i64 r.b] TMb) = w2 at *
        have y0 := XA.out.cell 0; have y1 := XA.out.cell 1; have y2 := XA.out.cell 2; have y3 := XA.out.cell 3
        obtain ⟨B1, hB1⟩ : ∃ B, B = w1.heap.size := ⟨_, rfl⟩
        rw [← hB1] at XA y0 y1 y2 y3 ⊢
        clear hB1
        go_wp2_with fail
        refine (HCL.out w2).mono ?_; rintro e w3 ⟨rfl, m3⟩
        have MA3 := Lib.hid (MA.out.trans m3)
        have z0 := m3.cell y0 (fun h => h)
        have HRG3 := Lib.hid (HRG.out.new MA3.out)
        have HL3 := Lib.hid (HRG.out.left MA3.out)
        have HO3 := Lib.hid (owns_modG HOW.out MA3.out (fun _ _ h => h))
        have HMM3 := Lib.hid (HMM.out.trans (MA3.out.mono (fun _ _ h => h.elim)))
        clear m3 y0 y1 y2 y3
        go_wp2_with fail
        exact ⟨⟨zs, delL td x, hzl, HSUM, HRT, HRG3, HO3, HMM3.out⟩, by rw [HL3.out]; exact HLT.out⟩
      · have e' : (r.u == 3) = false := by simpa using e
        have hd1 := HD.out
        rw [if_neg e] at hd1 hze2
        have HSUM := Lib.hid (show ((zs ++ [x]) ++ keysL (aliveL (delL td x))).Perm (keysL (aliveL ks)) by rw [List.append_assoc]; exact (hd1.append_left zs).symm.trans HS.out)
        have hz1 : zs.length + 1 ≤ 1000 := by rw [List.length_append] at hze2; simp at hze2; omega
        have HCL := Lib.hid (memAlive x r)
        rw [e'] at HCL
        clear hd1 e e' hze2
        go_upto_region 5 with fail
        generalize w1.alloc (.cells #[.int .i64 x, .int .i64 r.s, .int .i64 r.u, .int .i64 r.b] TMb) = w2 at *
        have y0 := XA.out.cell 0; have y1 := XA.out.cell 1; have y2 := XA.out.cell 2; have y3 := XA.out.cell 3
        obtain ⟨B1, hB1⟩ : ∃ B, B = w1.heap.size := ⟨_, rfl⟩
        rw [← hB1] at XA y0 y1 y2 y3 ⊢
        clear hB1
        go_wp2_with fail
        refine (HCL.out w2).mono ?_; rintro e w3 ⟨rfl, m3⟩
        have MA3 := Lib.hid (MA.out.trans m3)
        have z0 := m3.cell y0 (fun h => h)
        have HRG3 := Lib.hid (HRG.out.new MA3.out)
        have HL3 := Lib.hid (HRG.out.left MA3.out)
        have HO3 := Lib.hid (owns_modG HOW.out MA3.out (fun _ _ h => h))
        have HMM3 := Lib.hid (HMM.out.trans (MA3.out.mono (fun _ _ h => h.elim)))
        clear m3 y0 y1 y2 y3
        go_wp2_with (at_builtin; refine app1 (base := w0.heap.size) rfl (.tmp 20) (.tmp 23) 41 3 1 rfl Try.underlying41 infoInt rfl (by decide) _ _ _ _ 1 [.int .i64 x] (by have := HMM3.out.size; simp; omega) (HO3.out.alloc _) rfl rfl (sl_new w3 #[.int .i64 x] 3) (by simp [Value.oneCell']) (by decide) (by omega) ?_; intro v' w' g1 g2 g3; have G1 := Lib.hid g1; have G2 := Lib.hid (((Mod.refl _ w3).alloc (.cells #[.int .i64 x] 3)).trans g2); clear g1 g2 g3)
        have hog := own_ge HO3.out
        have n1 : ¬ _ = some M := fun h => by have := hog _ h; have := HW0.out; omega
        have n2 : ¬ _ = some B := fun h => by have := hog _ h; have := HW0.out; omega
        refine ⟨⟨zs ++ [x], delL td x, by simpa using hz1, HSUM, HRT, HRG3.out.mod G2.out n1 n2, ?_, HMM3.out.also G2.out (fun i hi => .inr (hog _ hi))⟩, ?_⟩
        · show World.ownsRow _ _ _ _ _ _ _
          simpa using G1.out
        · rw [HRG3.out.leftM G2.out n1 n2, HL3.out]; exact HLT.out
end Go.Proofs.Ytagiodagbfahpaa
