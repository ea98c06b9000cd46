/- Package rarest: Set of a known peer, the refusals, Gone, Peers; no condition but the table. -/
import Derived.Test.YtfopglaagnbacaaDoorRaE
namespace Go.Proofs.YtfopglaagnbacaaDoor
open Go Go.RowKit

/-- How many have a piece. -/
def cO (ks : List (Int × Ow)) (j : Nat) : Int := (ks.map fun q => if q.2.f j = true then (1 : Int) else 0).sum
theorem cO_bd : ∀ (ks : List (Int × Ow)) (j : Nat), 0 ≤ cO ks j ∧ cO ks j ≤ ks.length
  | [], j => by simp [cO]
  | q :: t, j => by
    have := cO_bd t j
    unfold cO at this ⊢
    rw [List.map_cons, List.sum_cons, List.length_cons]
    split <;> omega
theorem cO_cons (q : Int × Ow) (t : List (Int × Ow)) (j : Nat) : cO (q :: t) j = (if q.2.f j = true then 1 else 0) + cO t j := by
  unfold cO
  rw [List.map_cons, List.sum_cons]
theorem cO_ins (q : Int × Ow) (j : Nat) : ∀ ks, cO (insS q ks) j = (if q.2.f j = true then 1 else 0) + cO ks j
  | [] => by unfold insS; exact cO_cons _ _ _
  | y :: t => by
    unfold insS
    split
    · exact cO_cons _ _ _
    · rw [cO_cons, cO_cons, cO_ins q j t]; omega
theorem cO_del {peer : Int} {o : Ow} (j : Nat) : ∀ {ks : List (Int × Ow)}, Rising ks → (peer, o) ∈ ks → cO ks j = (if o.f j = true then 1 else 0) + cO (delL ks peer) j
  | [], _, h => by simp at h
  | q :: t, hr, h => by
    obtain ⟨h1, h2⟩ := List.pairwise_cons.1 hr
    by_cases e : q.1 = peer
    · have hq : q = (peer, o) := by
        rcases List.mem_cons.1 h with h | h
        · exact h.symm
        · have := h1 _ h
          simp only at this
          omega
      have hd : delL (q :: t) peer = t := by
        unfold delL
        rw [List.filter_cons, if_neg (by simp [e]), List.filter_eq_self]
        intro y hy
        have := h1 y hy
        simp
        omega
      rw [hd, cO_cons, hq]
    · have ht : (peer, o) ∈ t := by
        rcases List.mem_cons.1 h with h | h
        · exact absurd (by rw [← h]) e
        · exact h
      have hd : delL (q :: t) peer = q :: delL t peer := by
        unfold delL
        rw [List.filter_cons, if_pos (by simpa using e)]
      rw [hd, cO_cons, cO_cons, cO_del j h2 ht]
      omega
theorem cO_put (ks : List (Int × Ow)) (peer : Int) (o : Ow) (j : Nat) : cO (putL ks peer o) j = (if o.f j = true then 1 else 0) + cO (delL ks peer) j := by
  unfold putL
  exact cO_ins _ _ _
theorem cnK_all {c : Nat → Int} {f : Nat → Bool} {d : Int} {n : Nat} (hf : ∀ j, n ≤ j → f j = false) (j : Nat) : cnK c f d n j = c j + if f j = true then d else 0 := by
  unfold cnK
  by_cases h : f j = true
  · have : j < n := by
      rcases Nat.lt_or_ge j n with h2 | h2
      · exact h2
      · rw [hf j h2] at h; cases h
    rw [if_pos ⟨this, h⟩, if_pos h]
  · rw [if_neg (fun e => h e.2), if_neg h]; omega
theorem del_none {α : Type} {l : List (Int × α)} {k : Int} (h : lkL l k = none) : delL l k = l := del_of_none h

set_option maxRecDepth 100000 in
set_option maxHeartbeats 4000000 in
theorem rareSetKnown (peer : Int) (o : Ow) (s sg b M g n : Nat) (most : Int) (c : Nat → Int) (ks : List (Int × Ow)) (f : Nat → Bool) (w : World) (h : BD w b M g n most c ks) (hs : BSet w s sg n f) (hT : TabW w) (hap : ApartO b M g ks s sg) (hp : 1 ≤ peer ∧ peer ≤ 65536) (hr : ∀ k, -900 ≤ c k ∧ c k ≤ 900)
    (hn : n ≤ 1024) (hlen : ks.length ≤ 1000) (hyes : lkL ks peer = some o) :
    Calls Tryd.prog 17 #[.pointer (some ⟨b, 0, none⟩), .int .i64 peer, .pointer (some ⟨s, 0, none⟩)] w fun e w' => ∃ x y : Nat, e = .returned (.int .i64 0) ∧ BD w' b M g n most (cnK (cnK c o.f (-1) n) f 1 n) (putL ks peer ⟨x, y, f⟩) ∧ Mod (fun i => i = M ∨ i = g) w w' ∧ w.heap.size ≤ x ∧ w.heap.size ≤ y := by
  have c2 := h.head.cell 2; have c0 := h.head.cell 0; have c1 := h.head.cell 1
  have hI : I64 peer := i64_of (by omega) (by omega)
  have hl := h.map.lookOk Tryd.underlying3 Tryd.underlying73 (zeroPtr w) hI
  rw [lk_mpO, hyes] at hl
  simp only [Option.map_some, Option.getD_some, Option.isSome_some] at hl
  have hz := zeroPtr
  have H := Lib.hid h
  have HIP := Lib.hid hI
  have HAP := Lib.hid hap
  have HS := Lib.hid hs
  have HT := Lib.hid hT
  have HR := Lib.hid hr
  have HLN := Lib.hid hlen
  have HN4 := Lib.hid hn
  have HMEM := Lib.hid (lk_some_mem hyes)
  have p1 : ¬ peer < 1 := by omega
  have p2 : ¬ 65536 < peer := by omega
  have p1' : decide (peer < 1) = false := by simpa using p1
  have p2' : decide (65536 < peer) = false := by simpa using p2
  obtain ⟨c4, hc4⟩ : ∃ c4, c4 = cnK c o.f (-1) n := ⟨_, rfl⟩
  rw [← hc4]
  have HC4 := Lib.hid hc4
  clear h hap hs hT hr hlen hI hyes hc4
  go_enter Tryd.func17, Tryd.ntmps17
  go_upto_region 2 with fail
  clear hl
  have hnn : ((n : Int) != (n : Int)) = false := by simp
  refine wp_region2 [] [28] (by kernel_rfl) (by kernel_rfl) ?_
  repeat (first | (refine reg_anyT (by rfl) (fun K hK => ?_); go_simp; refine hK _ _ ?_; clear hK K) | (refine reg_read (by rfl) (fun K hK => ?_); go_simp; refine hK _ _ ?_; clear hK K))
  refine reg_read (by rfl) (fun K hK => ?_); go_simp
  refine ⟨_, fun rn => rd_same (bitsLen s sg n f _ (HS.out.drewN rn)), hK _ _ ?_⟩; clear hK K
  repeat (first | (refine reg_anyT (by rfl) (fun K hK => ?_); go_simp; refine hK _ _ ?_; clear hK K) | (refine reg_read (by rfl) (fun K hK => ?_); go_simp; refine hK _ _ ?_; clear hK K))
  refine reg_nil (fun nd => ?_)
  have md := (Mod.refl (fun _ => False) w).drewN nd
  have H1 := Lib.hid (H.out.new md)
  have HS1 := Lib.hid (HS.out.mod md (fun h => h) (fun h => h))
  have HT1 := Lib.hid (HT.out.mod md (fun h => h))
  have HM1 := Lib.hid (mod_w (Q := (· = g)) md (fun i h => h.elim))
  clear md c0 c1 c2
  generalize w.drewN nd = w1 at *
  have hso := H1.out.sets _ HMEM.out
  have hoff := H1.out.off _ HMEM.out
  have htg := H1.out.tab g (.inr (.inr (.inl rfl)))
  have HCC := Lib.hid (rareCount b g n o.s o.g (-1) c o.f w1 (H1.out.head.cell 3) H1.out.cn hso HT1.out (by decide) (fun k => by have := HR.out k; omega) HN4.out ⟨by have := H1.out.ne; omega, by simp only at hoff; omega, by simp only at hoff; omega, by omega⟩)
  rw [← HC4.out] at HCC
  have HNE := Lib.hid (show g ≠ b ∧ g ≠ M ∧ g ≠ gTab by have := H1.out.ne; omega)
  have HOF := Lib.hid hoff
  clear hso hoff htg
  go_wp2_with fail
  refine HCC.out.mono ?_; rintro e w4 ⟨rfl, hc, m4⟩
  have hap := HAP.out
  have HS4 := Lib.hid (HS1.out.mod m4 (by have := hap g (.inr (.inr (.inl rfl))); omega) (by have := hap g (.inr (.inr (.inl rfl))); omega))
  have HT4 := Lib.hid (HT1.out.mod m4 (by have := HNE.out; omega))
  have HM4 := Lib.hid (HM1.out.trans m4)
  have HB4 := Lib.hid (show BD w4 b M g n most c4 ks from ⟨H1.out.head.mod m4 (by have := HNE.out; omega), H1.out.map.mod m4 (by have := HNE.out; omega), hc, fun q hq => (H1.out.sets q hq).mod m4 (by have := H1.out.off q hq; omega) (by have := H1.out.off q hq; omega), H1.out.ne, H1.out.off, H1.out.two, H1.out.tab⟩)
  have HR4 : Hid (∀ k, -1000 ≤ c4 k ∧ c4 k ≤ 1000) := fun k => by
    have h1 := HR.out
    have := cnK_bd (f := o.f) (d := -1) (k := n) (B := 900) h1 (by decide) k
    rw [HC4.out]
    omega
  clear hc m4 hap H1 HS1 HT1 HM1 H HS HT HCC
  have c2 := HB4.out.head.cell 2; have c3 := HB4.out.head.cell 3
  go_upto_region 8 with fail
  refine wp_region2 [(3, 3), (6, 4), (7, 2)] [] (by kernel_rfl) (by kernel_rfl) ?_
  repeat (first | (refine reg_anyT (by rfl) (fun K hK => ?_); go_simp; refine hK _ _ ?_; clear hK K) | (refine reg_read (by rfl) (fun K hK => ?_); go_simp; refine hK _ _ ?_; clear hK K))
  refine reg_hold_v (by rfl) (by rfl) (.map (some M)) (fun w' hw' => q_load _ _ _ rfl rfl Tryd.isAgg73 (hw'.cell c2)) ?_
  repeat (first | (refine reg_anyT (by rfl) (fun K hK => ?_); go_simp; refine hK _ _ ?_; clear hK K) | (refine reg_read (by rfl) (fun K hK => ?_); go_simp; refine hK _ _ ?_; clear hK K))
  refine reg_new (by rfl) (fun rn K hK => ?_); go_simp
  refine (rareCopied s sg n f _ (HS4.out.drewN rn)).mono ?_; rintro e w5 ⟨x, y, rfl, h5, m5, hx5, hy5⟩
  refine hK _ _ ⟨m5.ex, ?_⟩; clear hK K
  have B5 := Lib.hid (HB4.out.new m5.undrew)
  have M5 := Lib.hid m5.undrew
  have S5 := Lib.hid h5
  have HX5 := Lib.hid (show w4.heap.size ≤ x ∧ w4.heap.size ≤ y from ⟨hx5, hy5⟩)
  clear h5 m5 hx5 hy5
  repeat (first | (refine reg_anyT (by rfl) (fun K hK => ?_); go_simp; refine hK _ _ ?_; clear hK K) | (refine reg_read (by rfl) (fun K hK => ?_); go_simp; refine hK _ _ ?_; clear hK K))
  refine reg_eff (by rfl) (fun rn K hK => ?_)
  obtain ⟨w6, hrun, him, hm6, hz6⟩ := (B5.out.drewN rn).map.put Tryd.underlying3 Tryd.underlying73 (by rw [mpO_len]; have := HLN.out; unfold maxLen; omega) HIP.out (.pointer (some ⟨x, 0, none⟩))
  go_simp
  refine hK _ _ ?_; clear hK K
  rw [show (Value.pointer (some ⟨x, 0, none⟩)) = .pointer (some ⟨(⟨x, y, f⟩ : Ow).s, 0, none⟩) from rfl, put_mpO] at him
  refine reg_nil (fun nd => ?_)
  have hne := HB4.out.ne
  have hM4 := HB4.out.lt (.inr (.inl rfl))
  have m46 : Mod (· = M) w4 (w6.drewN nd) := ((mod_w M5.out (fun i h => h.elim)).trans hm6.undrew).drewN nd
  have hcn6 := Lib.hid (HB4.out.cn.mod m46 (by omega))
  have hb6 : (w6.drewN nd).cell? ⟨b, 3, none⟩ = some (.slice (some ⟨g, 0, none⟩) n n) := m46.cell c3 (by show ¬ b = M; omega)
  have hap := HAP.out
  have hS6 := Lib.hid (HS4.out.mod m46 (fun e => (hap M (.inr (.inl rfl))).1 e.symm) (fun e => (hap M (.inr (.inl rfl))).2 e.symm))
  have hT6 := Lib.hid (HT4.out.mod m46 (by have := HB4.out.tab M (.inr (.inl rfl)); omega))
  have him6 := Lib.hid (him.drewN nd)
  have hx6 := Lib.hid (S5.out.mod (hm6.undrew.drewN nd) (by have := HX5.out; omega) (by have := HX5.out; omega))
  have HC := Lib.hid (rareCount b g n s sg 1 c4 f (w6.drewN nd) hb6 hcn6.out hS6.out hT6.out (by decide) HR4.out HN4.out ⟨by omega, (hap g (.inr (.inr (.inl rfl)))).1, (hap g (.inr (.inr (.inl rfl)))).2, by have := HB4.out.tab g (.inr (.inr (.inl rfl))); omega⟩)
  have M46 := Lib.hid m46
  clear him hm6 hz6 hrun m46 hne hM4 c2 c3 hb6 hap
  generalize w6.drewN nd = w6' at *
  go_wp2_with fail
  refine HC.out.mono ?_; rintro e w7 ⟨rfl, hc7, m7⟩
  have hg4 := HB4.out.lt (.inr (.inr (.inl rfl)))
  have hne := HB4.out.ne
  have m47 : Mod (fun i => i = M ∨ i = g) w4 w7 := (mod_w M46.out (fun i e => .inl e)).trans (mod_w m7 (fun i e => .inr e))
  have B7 := Lib.hid (HB4.out.put (peer := peer) m47 (him6.out.mod m7 (by omega)) hc7 (hx6.out.mod m7 (by have := HX5.out; omega) (by have := HX5.out; omega)) HX5.out.1 HX5.out.2)
  have M7 := Lib.hid ((mod_w HM4.out (fun i e => .inr e)).trans m47)
  clear hc7 m7 hg4 hne m47
  go_wp2_with fail
  go_ret
  exact ⟨x, y, rfl, B7.out, M7.out, by have := HX5.out; have := HM4.out.size; omega, by have := HX5.out; have := HM4.out.size; omega⟩

set_option maxRecDepth 100000 in
set_option maxHeartbeats 4000000 in
theorem rareSetFull (peer : Int) (s sg b M g n : Nat) (most : Int) (c : Nat → Int) (ks : List (Int × Ow)) (f : Nat → Bool) (w : World) (h : BD w b M g n most c ks) (hs : BSet w s sg n f) (hp : 1 ≤ peer ∧ peer ≤ 65536) (hno : lkL ks peer = none) (hroom : most ≤ (ks.length : Int)) :
    Calls Tryd.prog 17 #[.pointer (some ⟨b, 0, none⟩), .int .i64 peer, .pointer (some ⟨s, 0, none⟩)] w fun e w' => e = .returned (.int .i64 3) ∧ Mod (fun _ => False) w w' := by
  have c2 := h.head.cell 2; have c0 := h.head.cell 0; have c1 := h.head.cell 1
  have hI : I64 peer := i64_of (by omega) (by omega)
  have hl := h.map.lookOk Tryd.underlying3 Tryd.underlying73 (zeroPtr w) hI
  rw [lk_mpO, hno] at hl
  have hz := zeroPtr
  have H := Lib.hid h
  have HS := Lib.hid hs
  have p1 : ¬ peer < 1 := by omega
  have p2 : ¬ 65536 < peer := by omega
  have p1' : decide (peer < 1) = false := by simpa using p1
  have p2' : decide (65536 < peer) = false := by simpa using p2
  clear h hs hI hno
  go_enter Tryd.func17, Tryd.ntmps17
  go_upto_region 2 with fail
  clear hl
  have hnn : ((n : Int) != (n : Int)) = false := by simp
  refine wp_region2 [] [28] (by kernel_rfl) (by kernel_rfl) ?_
  repeat (first | (refine reg_anyT (by rfl) (fun K hK => ?_); go_simp; refine hK _ _ ?_; clear hK K) | (refine reg_read (by rfl) (fun K hK => ?_); go_simp; refine hK _ _ ?_; clear hK K))
  refine reg_read (by rfl) (fun K hK => ?_); go_simp
  refine ⟨_, fun rn => rd_same (bitsLen s sg n f _ (HS.out.drewN rn)), hK _ _ ?_⟩; clear hK K
  repeat (first | (refine reg_anyT (by rfl) (fun K hK => ?_); go_simp; refine hK _ _ ?_; clear hK K) | (refine reg_read (by rfl) (fun K hK => ?_); go_simp; refine hK _ _ ?_; clear hK K))
  refine reg_nil (fun nd => ?_)
  have md := (Mod.refl (fun _ => False) w).drewN nd
  have H1 := Lib.hid (H.out.new md)
  have HM1 := Lib.hid md
  clear md c0 c1 c2
  generalize w.drewN nd = w1 at *
  have c1 := H1.out.head.cell 1; have c2 := H1.out.head.cell 2
  have hml : ∀ q, (Builtin.len_ #[73] 3 #[.map (some M)]).run Tryd.prog (w1.drewN q) = .ok (.int .i64 (ks.length : Int)) (w1.drewN q) := by
    intro q
    have := (H1.out.map.drewN q).len (T := 73) Tryd.underlying73 3
    rw [mpO_len] at this
    exact this
  go_upto_region 6 with fail
  go_quiet (fail)
  go_wp2_with fail
  go_ret
  exact ⟨rfl, HM1.out.drewN _⟩

set_option maxRecDepth 100000 in
set_option maxHeartbeats 4000000 in
theorem rareSetBad (peer : Int) (so : Option Nat) (b M g n : Nat) (most : Int) (c : Nat → Int) (ks : List (Int × Ow)) (w : World) (h : BD w b M g n most c ks) (hI : I64 peer) (hbad : ¬ (1 ≤ peer ∧ peer ≤ 65536) ∨ so = none ∨ ∃ s sg n' f, so = some s ∧ BSet w s sg n' f ∧ n' ≠ n) :
    Calls Tryd.prog 17 #[.pointer (some ⟨b, 0, none⟩), .int .i64 peer, .pointer (so.map fun s => ⟨s, 0, none⟩)] w fun e w' => e = .returned (.int .i64 1) ∧ Mod (fun _ => False) w w' := by
  by_cases hp : 1 ≤ peer ∧ peer ≤ 65536
  · have p1 : ¬ peer < 1 := by omega
    have p2 : ¬ 65536 < peer := by omega
    have p1' : decide (peer < 1) = false := by simpa using p1
    have p2' : decide (65536 < peer) = false := by simpa using p2
    rcases hbad with hbad | rfl | ⟨s, sg, n', f, rfl, hs, hne⟩
    · exact absurd hp hbad
    · show Calls Tryd.prog 17 #[.pointer (some ⟨b, 0, none⟩), .int .i64 peer, .pointer none] w _
      have c2 := h.head.cell 2; have c0 := h.head.cell 0
      have hl := h.map.lookOk Tryd.underlying3 Tryd.underlying73 (zeroPtr w) hI
      obtain ⟨V, hV⟩ : ∃ V, V = (lkL (mpO ks) peer).getD (.pointer none) := ⟨_, rfl⟩
      obtain ⟨B, hB⟩ : ∃ B, B = (lkL (mpO ks) peer).isSome := ⟨_, rfl⟩
      rw [← hV, ← hB] at hl
      have hz := zeroPtr
      clear h hI hV hB
      go_enter Tryd.func17, Tryd.ntmps17
      go_upto_region 2 with fail
      clear hl
      go_quiet (fail)
      go_wp2_with fail
      go_ret
      exact ⟨rfl, (Mod.refl _ w).drewN _⟩
    · show Calls Tryd.prog 17 #[.pointer (some ⟨b, 0, none⟩), .int .i64 peer, .pointer (some ⟨s, 0, none⟩)] w _
      have HS := Lib.hid hs
      have hnn : ((n' : Int) != (n : Int)) = true := by simp; omega
      clear hs hne
      have c2 := h.head.cell 2; have c0 := h.head.cell 0
      have hl := h.map.lookOk Tryd.underlying3 Tryd.underlying73 (zeroPtr w) hI
      obtain ⟨V, hV⟩ : ∃ V, V = (lkL (mpO ks) peer).getD (.pointer none) := ⟨_, rfl⟩
      obtain ⟨B, hB⟩ : ∃ B, B = (lkL (mpO ks) peer).isSome := ⟨_, rfl⟩
      rw [← hV, ← hB] at hl
      have hz := zeroPtr
      clear h hI hV hB
      go_enter Tryd.func17, Tryd.ntmps17
      go_upto_region 2 with fail
      clear hl
      refine wp_region2 [] [28] (by kernel_rfl) (by kernel_rfl) ?_
      repeat (first | (refine reg_anyT (by rfl) (fun K hK => ?_); go_simp; refine hK _ _ ?_; clear hK K) | (refine reg_read (by rfl) (fun K hK => ?_); go_simp; refine hK _ _ ?_; clear hK K))
      refine reg_read (by rfl) (fun K hK => ?_); go_simp
      refine ⟨_, fun rn => rd_same (bitsLen s sg n' f _ (HS.out.drewN rn)), hK _ _ ?_⟩; clear hK K
      repeat (first | (refine reg_anyT (by rfl) (fun K hK => ?_); go_simp; refine hK _ _ ?_; clear hK K) | (refine reg_read (by rfl) (fun K hK => ?_); go_simp; refine hK _ _ ?_; clear hK K))
      refine reg_nil (fun nd => ?_)
      go_wp2_with fail
      go_ret
      exact ⟨rfl, (Mod.refl _ w).drewN _⟩
  · clear hbad
    by_cases p1 : peer < 1
    · have p1' : decide (peer < 1) = true := by simpa using p1
      clear hp
      have c2 := h.head.cell 2; have c0 := h.head.cell 0
      have hl := h.map.lookOk Tryd.underlying3 Tryd.underlying73 (zeroPtr w) hI
      obtain ⟨V, hV⟩ : ∃ V, V = (lkL (mpO ks) peer).getD (.pointer none) := ⟨_, rfl⟩
      obtain ⟨B, hB⟩ : ∃ B, B = (lkL (mpO ks) peer).isSome := ⟨_, rfl⟩
      rw [← hV, ← hB] at hl
      have hz := zeroPtr
      clear h hI hV hB
      go_enter Tryd.func17, Tryd.ntmps17
      go_upto_region 2 with fail
      clear hl
      go_quiet (fail)
      go_wp2_with fail
      go_ret
      exact ⟨rfl, (Mod.refl _ w).drewN _⟩
    · have p2 : 65536 < peer := by omega
      have p1' : decide (peer < 1) = false := by simpa using p1
      have p2' : decide (65536 < peer) = true := by simpa using p2
      clear hp
      have c2 := h.head.cell 2; have c0 := h.head.cell 0
      have hl := h.map.lookOk Tryd.underlying3 Tryd.underlying73 (zeroPtr w) hI
      obtain ⟨V, hV⟩ : ∃ V, V = (lkL (mpO ks) peer).getD (.pointer none) := ⟨_, rfl⟩
      obtain ⟨B, hB⟩ : ∃ B, B = (lkL (mpO ks) peer).isSome := ⟨_, rfl⟩
      rw [← hV, ← hB] at hl
      have hz := zeroPtr
      clear h hI hV hB
      go_enter Tryd.func17, Tryd.ntmps17
      go_upto_region 2 with fail
      clear hl
      go_quiet (fail)
      go_wp2_with fail
      go_ret
      exact ⟨rfl, (Mod.refl _ w).drewN _⟩
end Go.Proofs.YtfopglaagnbacaaDoor
