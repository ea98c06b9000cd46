/- The walk of the statement ConnOver: the call returns true and turns nothing that was there; no condition but the table. -/
import Derived.Test.YtjmfhcliggjdgaaDoorQ5
namespace Go.Proofs.YtjmfhcliggjdgaaDoor
open Go Go.RowKit

/-- The swarm and the two sets of the law. -/
structure OvI (B0 : Nat) (w : World) (s b M g t tM n : Nat) (ks : List (Int × Ow)) (L : LB) (T : LT) (s1 g1 : Nat) (f : Nat → Bool) (s3 g3 : Nat) (z : Nat → Bool) : Prop where
  sw : SW w s b M g t tM n 4 200 100 5 ks T
  e : mapV Ow.f ks = L
  x1 : BSet w s1 g1 n f
  x3 : BSet w s3 g3 n z
  ap : ∀ i, SWb s b M g t tM ks i → B0 ≤ i ∧ i ≠ s1 ∧ i ≠ g1 ∧ i ≠ s3 ∧ i ≠ g3
  tab : TabW w
  gt : gTab < B0
theorem OvI.new {B0 : Nat} {w w' : World} {s b M g t tM n : Nat} {ks : List (Int × Ow)} {L : LB} {T : LT} {s1 g1 : Nat} {f : Nat → Bool} {s3 g3 : Nat} {z : Nat → Bool} (h : OvI B0 w s b M g t tM n ks L T s1 g1 f s3 g3 z) (hm : Mod (fun _ => False) w w') : OvI B0 w' s b M g t tM n ks L T s1 g1 f s3 g3 z :=
  ⟨h.sw.new hm, h.e, h.x1.mod hm (fun h => h) (fun h => h), h.x3.mod hm (fun h => h) (fun h => h), h.ap, h.tab.mod hm fun h => h, h.gt⟩
theorem OvI.step {B0 : Nat} {w w' : World} {s b M g t tM n : Nat} {ks : List (Int × Ow)} {L L1 : LB} {T T1 : LT} {s1 g1 : Nat} {f : Nat → Bool} {s3 g3 : Nat} {z : Nat → Bool} (h : OvI B0 w s b M g t tM n ks L T s1 g1 f s3 g3 z) (hs : StS s b M g t tM n 4 200 100 5 ks L1 T1 w w') : (∃ k1, OvI B0 w' s b M g t tM n k1 L1 T1 s1 g1 f s3 g3 z) ∧ Mod (fun i => B0 ≤ i) w w' := by
  obtain ⟨k1, h1, e1, hm, hn⟩ := hs
  have hB : B0 ≤ w.heap.size := Nat.le_of_lt (Nat.lt_of_le_of_lt (h.ap s (.inl rfl)).1 h.sw.blk.lt)
  have l1 := h.x1.lt
  have l3 := h.x3.lt
  refine ⟨⟨k1, h1, e1, h.x1.mod hm (fun e => (h.ap _ e).2.1 rfl) (fun e => (h.ap _ e).2.2.1 rfl), h.x3.mod hm (fun e => (h.ap _ e).2.2.2.1 rfl) (fun e => (h.ap _ e).2.2.2.2 rfl), fun i hi => ?_, h.tab.mod hm (fun e => by have := (h.ap _ e).1; have := h.gt; omega), h.gt⟩, hm.mono fun i _ e => (h.ap i e).1⟩
  rcases hn i hi with e | e
  · exact h.ap i e
  · omega
theorem overA_not {T : LT} {p q k : Int} (h : ∀ r ∈ T, r.2.p = p) (hpq : p ≠ q) : overA T q k = false := by
  unfold overA
  cases hl : lkL T k with
  | none => rfl
  | some r =>
    have := h _ (lk_some_mem hl)
    dsimp only at this ⊢
    rw [this, decide_eq_false hpq]
theorem overA_is {T : LT} {p k : Int} (h : ∀ r ∈ T, r.2.p = p) : overA T p k = (lkL T k).isSome := by
  unfold overA
  cases hl : lkL T k with
  | none => rfl
  | some r =>
    have := h _ (lk_some_mem hl)
    dsimp only at this ⊢
    rw [this, decide_eq_true rfl]
    rfl
theorem overA_two {T : LT} {p k : Int} : overA (overT T p k) p k = false := by
  by_cases h : overA T p k = true
  · have : overT T p k = delL T k := by unfold overT; rw [if_pos h]
    rw [this]
    unfold overA
    rw [lk_del, if_pos rfl]
  · have : overT T p k = T := by unfold overT; rw [if_neg h]
    rw [this]
    simpa using h
theorem overT_no {T : LT} {p k : Int} (h : overA T p k = false) : overT T p k = T := by unfold overT; rw [h]; rfl
theorem overT_mem {T : LT} {p k : Int} {q : Int × Fl.Rq} (h : q ∈ overT T p k) : q ∈ T := by
  unfold overT at h
  split at h
  · exact (List.mem_filter.1 h).1
  · exact h
theorem overT_len {T : LT} {p k : Int} : (overT T p k).length ≤ T.length := by
  unfold overT
  split
  · exact List.length_filter_le _ _
  · exact Nat.le_refl _
theorem goneT_all {f : Nat → Bool} {p : Int} {T : LT} (h : ∀ r ∈ T, r.2.p = p) : goneT [(p, f)] p T = [] := by
  unfold goneT
  rw [lk_one, if_pos rfl, if_pos (show (some f).isSome = true from rfl), List.filter_eq_nil_iff]
  intro q hq
  rw [h q hq]
  simp
theorem goneA_one {f : Nat → Bool} {p : Int} : goneA [(p, f)] p = (0, []) := by
  unfold goneA
  rw [lk_one, if_pos rfl, if_pos (show (some f).isSome = true from rfl)]
  simp [delL]
/-- Bits of the first peer. -/
theorem bitsFirst (p : Int) (hp : 1 ≤ p ∧ p ≤ 65536) (B0 : Nat) (w : World) (s b M g t tM n : Nat) (ks : List (Int × Ow)) (T : LT) (s1 g1 : Nat) (f : Nat → Bool) (s3 g3 : Nat) (z : Nat → Bool) (h : OvI B0 w s b M g t tM n ks [] T s1 g1 f s3 g3 z) (hn : n ≤ 1024) :
    Calls Tryd.prog 7 #[.pointer (some ⟨s, 0, none⟩), .int .i64 p, .pointer (some ⟨s1, 0, none⟩)] w fun e w' => e = .returned (.int .i64 0) ∧ StS s b M g t tM n 4 200 100 5 ks [(p, f)] T w w' := by
  have hks : ks = [] := by
    have h1 := congrArg List.length h.e
    rw [mapV_len] at h1
    exact List.length_eq_zero_iff.1 h1
  subst hks
  have HC : Hid (Calls Tryd.prog 19 #[.pointer (some ⟨b, 0, none⟩), .int .i64 p, .pointer (some ⟨s1, 0, none⟩)] w fun e w' => e = .returned (.int .i64 0) ∧ CodeP b M g n 4 [] [(p, f)] w w') := by
    refine (rareSetNew p s1 g1 b M g n 4 (cO []) [] f w h.sw.bd h.x1 h.tab (fun i hi => ⟨(h.ap i (.inr (.inl hi))).2.1, (h.ap i (.inr (.inl hi))).2.2.1⟩) hp (cO_rng (by decide)) hn (by decide) rfl (by decide)).mono ?_
    rintro e w1 ⟨x, y, rfl, b1, m1, hx, hy⟩
    refine ⟨rfl, _, b1.ext fun k _ => ?_, rfl, m1.mono fun i _ e => e.elim (fun e => .inr (.inl e)) fun e => .inr (.inr (.inl e)), bdb_put hx hy⟩
    rw [cO_put, cnK_all h.x1.out, del_none (by rfl)]
    dsimp only
    split <;> omega
  obtain ⟨c0, c1, c2⟩ := h.sw.at
  have H := Lib.hid h.sw
  clear h c0 c2
  go_enter Tryd.func7, Tryd.ntmps7
  go_wp2_with fail
  refine HC.out.mono ?_; rintro e w1 ⟨rfl, h1⟩
  have H1 := Lib.hid (StS.board H.out h1)
  clear h1
  go_wp2_with fail
  go_ret
  exact ⟨rfl, H1.out⟩
theorem sl_two (w : World) (a b : Int) : Sl (w.alloc (.cells #[.int .i64 a, .int .i64 b] 3)) (.slice (some ⟨w.heap.size, 0, none⟩) 2 2) 1 2 (intL [a, b]) := by
  have h0 := (Blk.new w #[.int .i64 a, .int .i64 b] 3).cell 0
  have h1 := (Blk.new w #[.int .i64 a, .int .i64 b] 3).cell 1
  refine .inr ⟨_, _, rfl, rfl, fun j u hj => ?_⟩
  match j, hj with
  | 0, hj =>
    simp at hj
    subst hj
    exact h0
  | 1, hj =>
    simp at hj
    subst hj
    exact h1
  | j + 2, hj => simp at hj
/-- Next of the law. -/
theorem ovNext (now seed p : Int) (B0 : Nat) (w : World) (s b M g t tM n : Nat) (ks : List (Int × Ow)) (s1 g1 : Nat) (f : Nat → Bool) (s3 g3 : Nat) (z : Nat → Bool) (h : OvI B0 w s b M g t tM n ks [(p, f)] [] s1 g1 f s3 g3 z) (hn : 1 ≤ n ∧ n ≤ 100) (hz : ∀ i, z i = false) (hp : p ∈ [(3 : Int), 4]) (hq : 0 ≤ now ∧ now ≤ 1099511627776) :
    Calls Tryd.prog 8 #[.pointer (some ⟨s, 0, none⟩), .int .i64 now, .pointer (some ⟨s3, 0, none⟩), .slice (some ⟨w.heap.size, 0, none⟩) 2 2, .int .u64 seed] (w.alloc (.cells #[.int .i64 3, .int .i64 4] 3)) fun e w' => ∃ (a : Option Addr) (cap : Nat) (T : LT), e = .returned (.tuple #[.slice a (cnt f n) cap, .int .i64 0]) ∧ (∀ q ∈ T, q.2.p = p) ∧ (∀ k : Int, (lkL T k).isSome = hasB f k) ∧ T.length ≤ 256 ∧ (∀ q ∈ T, I64 q.1) ∧ (∃ k1, OvI B0 w' s b M g t tM n k1 [(p, f)] T s1 g1 f s3 g3 z) ∧ Mod (fun i => B0 ≤ i) w w' := by
  have ma := (Mod.refl (fun _ => False) w).alloc (.cells #[.int .i64 3, .int .i64 4] 3)
  have hO := h.new ma
  have hc := connNext now seed (some s3) (some (n, z)) (.slice (some ⟨w.heap.size, 0, none⟩) 2 2) 2 [3, 4] s b M g t tM n 4 200 100 5 ks [(p, f)] [] (w.alloc (.cells #[.int .i64 3, .int .i64 4] 3)) hO.sw hO.tab (lo := 0) (.inr ⟨s3, g3, n, _, rfl, rfl, hO.x3, Nat.zero_le _, Nat.zero_le _⟩) (sl_two w 3 4) (by decide)
    (fun x m c e _ => by cases e; have := h.sw.tb.lt.2; show w.heap.size ≠ tM; omega) hO.e (Fl.Okk.nil 200 100 (by decide) (by decide)) ⟨by unfold Rising; simp, by show ((1 : Nat) : Int) ≤ 4; decide, fun q hq => by
      simp only [List.mem_cons, List.not_mem_nil, or_false] at hq hp
      rw [hq]
      exact Fl.i64_of (by dsimp only; omega) (by dsimp only; omega)⟩ (by decide) (by decide) (by intro q hq; simp at hq) (by omega) (fun i hi => by have := (h.ap i hi).1; have := h.gt; omega)
  rw [nextA_some hq] at hc
  obtain ⟨h1, h2, h3, h4⟩ := over_next (now := now) (seed := seed) hn hz h.x1.out hp hq
  refine hc.mono ?_
  rintro e w' ⟨⟨v, rfl, ho⟩, ht, hm⟩
  obtain ⟨a, cap, rfl, _, _, _⟩ := ho.els
  dsimp only at ht ⊢
  have hs := hO.step (StS.tmod hO.sw hO.e ht hm)
  exact ⟨a, cap, _, by rw [h1], h2, h3, by have h5 := h4.ok.len; omega, h4.ok.i64, hs.1, (ma.mono fun _ _ e => e.elim).trans hs.2⟩
set_option maxRecDepth 100000 in
set_option maxHeartbeats 4000000 in
theorem connOver_walk (n0 : Int) (a1 : Option Addr) (len1 cap1 : Nat) (z1 : List Int) (piece : Int) (w : World) (hT : TabW w) (_ : (Lit.int .i64 n0).wf = true) (hz1 : IsRow .u8 w a1 len1 cap1 z1) (hpi : (Lit.int .i64 piece).wf = true) :
    Calls Tryd.prog 3 #[.int .i64 n0, .slice a1 len1 cap1, .int .i64 piece] w fun e w' => e = .returned (.bool true) ∧ Below w.heap.size w w' := by
  refine Calls.mono (R := fun e w' => e = .returned (.bool true) ∧ Mod (fun _ => False) w w') ?_ (fun e w' ⟨h1, h2⟩ => ⟨h1, h2.bel⟩)
  obtain ⟨bs, hbl, hb, hs⟩ := hz1.bytes
  have HB := Lib.hid hb
  have HS := Lib.hid hs
  have HT := Lib.hid hT
  have HPI := Lib.hid (show I64 piece from hpi)
  have HAW := Lib.hid (awake18 w hT)
  have HG : Hid (gTab < w.heap.size) := hT.lt
  clear hz1 hb hs hT hbl
  by_cases hp1 : n0 < 1
  · go_enter Tryd.func3, Tryd.ntmps3
    go_wp2_with fail
    refine HAW.out.mono ?_; rintro e w1 ⟨rfl, m1⟩
    go_wp2_with fail
    go_ret
    exact ⟨rfl, m1⟩
  by_cases hp2 : 100 < n0
  · go_enter Tryd.func3, Tryd.ntmps3
    go_wp2_with fail
    refine HAW.out.mono ?_; rintro e w1 ⟨rfl, m1⟩
    go_wp2_with fail
    go_ret
    exact ⟨rfl, m1⟩
  obtain ⟨n, rfl⟩ : ∃ n : Nat, n0 = (n : Int) := ⟨n0.toNat, by omega⟩
  have HN : Hid (1 ≤ n ∧ n ≤ 100) := by show _ ∧ _; omega
  go_enter Tryd.func3, Tryd.ntmps3
  go_wp2_with fail
  refine HAW.out.mono ?_; rintro e w1 ⟨rfl, m1⟩
  have HT1 := Lib.hid (HT.out.mod m1 fun h => h)
  have HCN := Lib.hid (connNew n 4 200 100 5 w1 (by have := HN.out; unfold BoardOk; omega) (by unfold Fl.NewOk; decide) HT1.out)
  have M1 := Lib.hid m1
  clear m1 HAW
  go_wp2_with fail
  refine HCN.out.mono ?_; rintro e w2 ⟨s, b, M, g, t, tM, rfl, h2, m2, l2⟩
  have H2 := Lib.hid h2
  have M2 := Lib.hid (M1.out.trans m2)
  have L2 : Hid (∀ i, SWb s b M g t tM [] i → w.heap.size ≤ i) := fun i hi => Nat.le_trans M1.out.size (l2 i hi)
  have HS2 := Lib.hid (setsOk n a1 len1 cap1 bs w2 (by have := HN.out; omega) (HS.out.mod M2.out (fun _ _ _ _ h => h)) HB.out)
  clear h2 m2 l2 HCN M1 HT1
  go_wp2_with fail
  refine HS2.out.mono ?_; rintro e w3 ⟨s1, g1, r1, q1, rfl, b3, -, m3, l3, -⟩
  obtain ⟨f, hf⟩ : ∃ f, f = F13 n bs := ⟨_, rfl⟩
  rw [← hf] at b3
  have H3 := Lib.hid (H2.out.new m3)
  have X3 := Lib.hid b3
  have M3 := Lib.hid (M2.out.trans m3)
  have L3 : Hid (∀ i, SWb s b M g t tM [] i → i < s1 ∧ i < g1) := fun i hi => by have := H2.out.lt hi; omega
  have HS3 := Lib.hid (setsOk n none 0 0 [] w3 (by have := HN.out; omega) (Sl.nil _ _) (by simp))
  clear b3 m3 l3 hf HS2 M2 H2
  go_wp2_with fail
  refine HS3.out.mono ?_; rintro e w4 ⟨s3, g3, r3, q3, rfl, b4, -, m4, l4, -⟩
  have HI4 : Hid (OvI w.heap.size w4 s b M g t tM n [] [] [] s1 g1 f s3 g3 (F13 n [])) := ⟨H3.out.new m4, rfl, X3.out.mod m4 (fun h => h) (fun h => h), b4, fun i hi => by
    have h1 := L2.out i hi; have h2 := L3.out i hi; have h3 := H3.out.lt hi; omega, HT.out.mod (M3.out.trans m4) (fun h => h), HG.out⟩
  have M4 := Lib.hid (M3.out.trans m4)
  clear b4 m4 l4 HS3 M3 H3 X3 L2 L3
  have hb5 := bitsFirst 3 (by decide) w.heap.size w4 s b M g t tM n [] [] s1 g1 f s3 g3 (F13 n []) HI4.out (by have := HN.out; omega)
  have HB5 := Lib.hid hb5
  clear hb5
  go_wp2_with fail
  refine HB5.out.mono ?_; rintro e w5 ⟨rfl, h5⟩
  obtain ⟨⟨k5, i5⟩, m5⟩ := HI4.out.step h5
  have HI5 := Lib.hid i5
  have M5 := Lib.hid (M4.out.new m5 fun i e => e)
  clear h5 i5 m5 HI4 M4 HB5
  have HNX := Lib.hid (ovNext 1 9 3 w.heap.size w5 s b M g t tM n k5 s1 g1 f s3 g3 (F13 n []) HI5.out HN.out (F13_nil n) (by simp) (by decide))
  go_wp2_with fail
  refine HNX.out.mono ?_; rintro e w6 ⟨a6, cap6, T6, rfl, hp6, hs6, hl6, hi6, ⟨k6, i6⟩, m6⟩
  have HI6 := Lib.hid i6
  have HP6 := Lib.hid hp6
  have HS6 := Lib.hid hs6
  have HL6 := Lib.hid hl6
  have HII6 := Lib.hid hi6
  have M6 := Lib.hid (M5.out.new m6 fun i e => e)
  clear hp6 hs6 hl6 hi6 i6 m6 HNX HI5 M5
  have ho7 := connOver 4 piece s b M g t tM n 4 200 100 5 k6 T6 w6 HI6.out.sw HPI.out
  rw [overA_not HP6.out (by decide), overT_no (overA_not HP6.out (by decide))] at ho7
  have HO7 := Lib.hid ho7
  clear ho7
  go_wp2_with fail
  refine HO7.out.mono ?_; rintro e w7 ⟨rfl, ht7, mt7⟩
  obtain ⟨⟨k7, i7⟩, m7⟩ := HI6.out.step (StS.tmod HI6.out.sw HI6.out.e ht7 mt7)
  have HI7 := Lib.hid i7
  have M7 := Lib.hid (M6.out.new m7 fun i e => e)
  clear ht7 mt7 i7 m7 HO7 HI6 M6
  have ho8 := connOver 3 piece s b M g t tM n 4 200 100 5 k7 T6 w7 HI7.out.sw HPI.out
  rw [overA_is HP6.out, HS6.out piece] at ho8
  obtain ⟨T8, hT8⟩ : ∃ x, x = overT T6 3 piece := ⟨_, rfl⟩
  rw [← hT8] at ho8
  have HP8 : Hid (∀ q ∈ T8, q.2.p = 3) := fun q hq => HP6.out q (overT_mem (by rw [← hT8]; exact hq))
  have HII8 : Hid (∀ q ∈ T8, I64 q.1) := fun q hq => HII6.out q (overT_mem (by rw [← hT8]; exact hq))
  have HL8 : Hid (T8.length ≤ 256) := by have h1 := HL6.out; have h2 := overT_len (T := T6) (p := 3) (k := piece); rw [← hT8] at h2; show T8.length ≤ 256; omega
  have HA8 : Hid (overA T8 3 piece = false) := by show _ = _; rw [hT8]; exact overA_two
  obtain ⟨hB, hhB⟩ : ∃ x, x = hasB f piece := ⟨_, rfl⟩
  rw [← hhB] at ho8
  have HHB := Lib.hid hhB
  have HO8 := Lib.hid ho8
  clear ho8 hT8 hhB
  go_wp2_with fail
  refine HO8.out.mono ?_; rintro e w8 ⟨rfl, ht8, mt8⟩
  obtain ⟨⟨k8, i8⟩, m8⟩ := HI7.out.step (StS.tmod HI7.out.sw HI7.out.e ht8 mt8)
  have HI8 := Lib.hid i8
  have M8 := Lib.hid (M7.out.new m8 fun i e => e)
  clear ht8 mt8 i8 m8 HO8 HI7 M7
  have ho9 := connOver 3 piece s b M g t tM n 4 200 100 5 k8 T8 w8 HI8.out.sw HPI.out
  rw [HA8.out, overT_no HA8.out] at ho9
  have HO9 := Lib.hid ho9
  clear ho9
  go_wp2_with fail
  refine HO9.out.mono ?_; rintro e w9 ⟨rfl, ht9, mt9⟩
  obtain ⟨⟨k9, i9⟩, m9⟩ := HI8.out.step (StS.tmod HI8.out.sw HI8.out.e ht9 mt9)
  have HI9 := Lib.hid i9
  have M9 := Lib.hid (M8.out.new m9 fun i e => e)
  clear ht9 mt9 i9 m9 HO9 HI8 M8
  have hg10 := connGone 3 s b M g t tM n 4 200 100 5 k9 [(3, f)] T8 w9 HI9.out.sw HI9.out.e HI9.out.tab (by have h1 := congrArg List.length HI9.out.e; rw [mapV_len] at h1; simp at h1; omega) (by have := HN.out; omega) (Fl.i64_of (by decide) (by decide)) HL8.out HII8.out
  rw [goneA_one, goneT_all HP8.out] at hg10
  have HG10 := Lib.hid hg10
  clear hg10
  go_wp2_with fail
  refine HG10.out.mono ?_; rintro e w10 ⟨rfl, h10⟩
  obtain ⟨⟨k10, i10⟩, m10⟩ := HI9.out.step h10
  have HI10 := Lib.hid i10
  have M10 := Lib.hid (M9.out.new m10 fun i e => e)
  clear h10 i10 m10 HG10 HI9 M9
  have hb11 := bitsFirst 4 (by decide) w.heap.size w10 s b M g t tM n k10 [] s1 g1 f s3 g3 (F13 n []) HI10.out (by have := HN.out; omega)
  have HB11 := Lib.hid hb11
  clear hb11
  go_wp2_with fail
  refine HB11.out.mono ?_; rintro e w11 ⟨rfl, h11⟩
  obtain ⟨⟨k11, i11⟩, m11⟩ := HI10.out.step h11
  have HI11 := Lib.hid i11
  have M11 := Lib.hid (M10.out.new m11 fun i e => e)
  clear h11 i11 m11 HI10 M10 HB11
  have HNX := Lib.hid (ovNext 2 9 4 w.heap.size w11 s b M g t tM n k11 s1 g1 f s3 g3 (F13 n []) HI11.out HN.out (F13_nil n) (by simp) (by decide))
  go_wp2_with fail
  refine HNX.out.mono ?_; rintro e w12 ⟨a12, cap12, T12, rfl, -, -, -, -, ⟨k12, i12⟩, m12⟩
  have HI12 := Lib.hid i12
  have M12 := Lib.hid (M11.out.new m12 fun i e => e)
  clear i12 m12 HNX HI11 M11
  have HCO := Lib.hid (bitsCount s1 g1 n f w12 HI12.out.x1)
  have hha := bitsHas s1 g1 n f piece w12 HI12.out.x1
  rw [← HHB.out] at hha
  have HHA := Lib.hid hha
  obtain ⟨cN, hcN⟩ : ∃ c, c = cnt f n := ⟨_, rfl⟩
  rw [← hcN] at HCO ⊢
  clear hha hcN
  go_wp2_with fail
  refine HCO.out.mono ?_; rintro e w13 ⟨rfl, rfl⟩
  go_wp2_with fail
  refine HHA.out.mono ?_; rintro e w13 ⟨rfl, rfl⟩
  go_wp2_with fail
  go_ret
  exact ⟨by simp, M12.out⟩
end Go.Proofs.YtjmfhcliggjdgaaDoor
