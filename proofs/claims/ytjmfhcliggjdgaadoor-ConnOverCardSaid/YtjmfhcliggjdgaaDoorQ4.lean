/- Texts of this claim, laid together by a program of its own: RaF, RaG, RbA, RaT, RwO, RwT, RcA, CoA, CoC, CoD, CoP, CoE, CoF. Each says in its first row what it proves. -/
import Derived.Lib.SmallJoins
import Derived.ProofKit
import Derived.LaidMore
import Derived.OpenShut
import Derived.Stop.Joined
import Derived.WalkMore
import Derived.Test.YtjmfhcliggjdgaaDoorQ3
/- Package rarest: Set of a known peer, the refusals, Gone, Peers; no condition but the table. -/
namespace Go.Proofs.YtjmfhcliggjdgaaDoor
open Go Go.RowKit

/-- How many have a piece. -/
def cO (ks : List (Int × Ow)) (j : Nat) : Int := (ks.map fun q => if q.2.f j = true then (1 : Int) else 0).sum
theorem cO_bd : ∀ (ks : List (Int × Ow)) (j : Nat), 0 ≤ cO ks j ∧ cO ks j ≤ ks.length
  | [], j => by simp [cO]
  | q :: t, j => by
    have := cO_bd t j
    unfold cO at this ⊢
    rw [List.map_cons, List.sum_cons, List.length_cons]
    split <;> omega
theorem cO_cons (q : Int × Ow) (t : List (Int × Ow)) (j : Nat) : cO (q :: t) j = (if q.2.f j = true then 1 else 0) + cO t j := by
  unfold cO
  rw [List.map_cons, List.sum_cons]
theorem cO_ins (q : Int × Ow) (j : Nat) : ∀ ks, cO (insS q ks) j = (if q.2.f j = true then 1 else 0) + cO ks j
  | [] => by unfold insS; exact cO_cons _ _ _
  | y :: t => by
    unfold insS
    split
    · exact cO_cons _ _ _
    · rw [cO_cons, cO_cons, cO_ins q j t]; omega
theorem cO_del {peer : Int} {o : Ow} (j : Nat) : ∀ {ks : List (Int × Ow)}, Rising ks → (peer, o) ∈ ks → cO ks j = (if o.f j = true then 1 else 0) + cO (delL ks peer) j
  | [], _, h => by simp at h
  | q :: t, hr, h => by
    obtain ⟨h1, h2⟩ := List.pairwise_cons.1 hr
    by_cases e : q.1 = peer
    · have hq : q = (peer, o) := by
        rcases List.mem_cons.1 h with h | h
        · exact h.symm
        · have := h1 _ h
          simp only at this
          omega
      have hd : delL (q :: t) peer = t := by
        unfold delL
        rw [List.filter_cons, if_neg (by simp [e]), List.filter_eq_self]
        intro y hy
        have := h1 y hy
        simp
        omega
      rw [hd, cO_cons, hq]
    · have ht : (peer, o) ∈ t := by
        rcases List.mem_cons.1 h with h | h
        · exact absurd (by rw [← h]) e
        · exact h
      have hd : delL (q :: t) peer = q :: delL t peer := by
        unfold delL
        rw [List.filter_cons, if_pos (by simpa using e)]
      rw [hd, cO_cons, cO_cons, cO_del j h2 ht]
      omega
theorem cO_put (ks : List (Int × Ow)) (peer : Int) (o : Ow) (j : Nat) : cO (putL ks peer o) j = (if o.f j = true then 1 else 0) + cO (delL ks peer) j := by
  unfold putL
  exact cO_ins _ _ _
theorem cnK_all {c : Nat → Int} {f : Nat → Bool} {d : Int} {n : Nat} (hf : ∀ j, n ≤ j → f j = false) (j : Nat) : cnK c f d n j = c j + if f j = true then d else 0 := by
  unfold cnK
  by_cases h : f j = true
  · have : j < n := by
      rcases Nat.lt_or_ge j n with h2 | h2
      · exact h2
      · rw [hf j h2] at h; cases h
    rw [if_pos ⟨this, h⟩, if_pos h]
  · rw [if_neg (fun e => h e.2), if_neg h]; omega
theorem del_none {α : Type} {l : List (Int × α)} {k : Int} (h : lkL l k = none) : delL l k = l := del_of_none h

set_option maxRecDepth 100000 in
set_option maxHeartbeats 4000000 in
theorem rareSetKnown (peer : Int) (o : Ow) (s sg b M g n : Nat) (most : Int) (c : Nat → Int) (ks : List (Int × Ow)) (f : Nat → Bool) (w : World) (h : BD w b M g n most c ks) (hs : BSet w s sg n f) (hT : TabW w) (hap : ApartO b M g ks s sg) (hp : 1 ≤ peer ∧ peer ≤ 65536) (hr : ∀ k, -900 ≤ c k ∧ c k ≤ 900)
    (hn : n ≤ 1024) (hlen : ks.length ≤ 1000) (hyes : lkL ks peer = some o) :
    Calls Tryd.prog 19 #[.pointer (some ⟨b, 0, none⟩), .int .i64 peer, .pointer (some ⟨s, 0, none⟩)] w fun e w' => ∃ x y : Nat, e = .returned (.int .i64 0) ∧ BD w' b M g n most (cnK (cnK c o.f (-1) n) f 1 n) (putL ks peer ⟨x, y, f⟩) ∧ Mod (fun i => i = M ∨ i = g) w w' ∧ w.heap.size ≤ x ∧ w.heap.size ≤ y := by
  have c2 := h.head.cell 2; have c0 := h.head.cell 0; have c1 := h.head.cell 1
  have hI : I64 peer := i64_of (by omega) (by omega)
  have hl := h.map.lookOk Tryd.underlying3 Tryd.underlying74 (zeroPtr w) hI
  rw [lk_mpO, hyes] at hl
  simp only [Option.map_some, Option.getD_some, Option.isSome_some] at hl
  have hz := zeroPtr
  have H := Lib.hid h
  have HIP := Lib.hid hI
  have HAP := Lib.hid hap
  have HS := Lib.hid hs
  have HT := Lib.hid hT
  have HR := Lib.hid hr
  have HLN := Lib.hid hlen
  have HN4 := Lib.hid hn
  have HMEM := Lib.hid (lk_some_mem hyes)
  have p1 : ¬ peer < 1 := by omega
  have p2 : ¬ 65536 < peer := by omega
  have p1' : decide (peer < 1) = false := by simpa using p1
  have p2' : decide (65536 < peer) = false := by simpa using p2
  obtain ⟨c4, hc4⟩ : ∃ c4, c4 = cnK c o.f (-1) n := ⟨_, rfl⟩
  rw [← hc4]
  have HC4 := Lib.hid hc4
  clear h hap hs hT hr hlen hI hyes hc4
  go_enter Tryd.func19, Tryd.ntmps19
  go_upto_region 2 with fail
  clear hl
  have hnn : ((n : Int) != (n : Int)) = false := by simp
  refine wp_region2 [] [34] (by kernel_rfl) (by kernel_rfl) ?_
  repeat (first | (refine reg_anyT (by rfl) (fun K hK => ?_); go_simp; refine hK _ _ ?_; clear hK K) | (refine reg_read (by rfl) (fun K hK => ?_); go_simp; refine hK _ _ ?_; clear hK K))
  refine reg_read (by rfl) (fun K hK => ?_); go_simp
  refine ⟨_, fun rn => rd_same (bitsLen s sg n f _ (HS.out.drewN rn)), hK _ _ ?_⟩; clear hK K
  repeat (first | (refine reg_anyT (by rfl) (fun K hK => ?_); go_simp; refine hK _ _ ?_; clear hK K) | (refine reg_read (by rfl) (fun K hK => ?_); go_simp; refine hK _ _ ?_; clear hK K))
  refine reg_nil (fun nd => ?_)
  have md := (Mod.refl (fun _ => False) w).drewN nd
  have H1 := Lib.hid (H.out.new md)
  have HS1 := Lib.hid (HS.out.mod md (fun h => h) (fun h => h))
  have HT1 := Lib.hid (HT.out.mod md (fun h => h))
  have HM1 := Lib.hid (mod_w (Q := (· = g)) md (fun i h => h.elim))
  clear md c0 c1 c2
  generalize w.drewN nd = w1 at *
  have hso := H1.out.sets _ HMEM.out
  have hoff := H1.out.off _ HMEM.out
  have htg := H1.out.tab g (.inr (.inr (.inl rfl)))
  have HCC := Lib.hid (rareCount b g n o.s o.g (-1) c o.f w1 (H1.out.head.cell 3) H1.out.cn hso HT1.out (by decide) (fun k => by have := HR.out k; omega) HN4.out ⟨by have := H1.out.ne; omega, by simp only at hoff; omega, by simp only at hoff; omega, by omega⟩)
  rw [← HC4.out] at HCC
  have HNE := Lib.hid (show g ≠ b ∧ g ≠ M ∧ g ≠ gTab by have := H1.out.ne; omega)
  have HOF := Lib.hid hoff
  clear hso hoff htg
  go_wp2_with fail
  refine HCC.out.mono ?_; rintro e w4 ⟨rfl, hc, m4⟩
  have hap := HAP.out
  have HS4 := Lib.hid (HS1.out.mod m4 (by have := hap g (.inr (.inr (.inl rfl))); omega) (by have := hap g (.inr (.inr (.inl rfl))); omega))
  have HT4 := Lib.hid (HT1.out.mod m4 (by have := HNE.out; omega))
  have HM4 := Lib.hid (HM1.out.trans m4)
  have HB4 := Lib.hid (show BD w4 b M g n most c4 ks from ⟨H1.out.head.mod m4 (by have := HNE.out; omega), H1.out.map.mod m4 (by have := HNE.out; omega), hc, fun q hq => (H1.out.sets q hq).mod m4 (by have := H1.out.off q hq; omega) (by have := H1.out.off q hq; omega), H1.out.ne, H1.out.off, H1.out.two, H1.out.tab⟩)
  have HR4 : Hid (∀ k, -1000 ≤ c4 k ∧ c4 k ≤ 1000) := fun k => by
    have h1 := HR.out
    have := cnK_bd (f := o.f) (d := -1) (k := n) (B := 900) h1 (by decide) k
    rw [HC4.out]
    omega
  clear hc m4 hap H1 HS1 HT1 HM1 H HS HT HCC
  have c2 := HB4.out.head.cell 2; have c3 := HB4.out.head.cell 3
  go_upto_region 8 with fail
  refine wp_region2 [(3, 3), (6, 4), (7, 2)] [] (by kernel_rfl) (by kernel_rfl) ?_
  repeat (first | (refine reg_anyT (by rfl) (fun K hK => ?_); go_simp; refine hK _ _ ?_; clear hK K) | (refine reg_read (by rfl) (fun K hK => ?_); go_simp; refine hK _ _ ?_; clear hK K))
  refine reg_hold_v (by rfl) (by rfl) (.map (some M)) (fun w' hw' => q_load _ _ _ rfl rfl Tryd.isAgg74 (hw'.cell c2)) ?_
  repeat (first | (refine reg_anyT (by rfl) (fun K hK => ?_); go_simp; refine hK _ _ ?_; clear hK K) | (refine reg_read (by rfl) (fun K hK => ?_); go_simp; refine hK _ _ ?_; clear hK K))
  refine reg_new (by rfl) (fun rn K hK => ?_); go_simp
  refine (rareCopied s sg n f _ (HS4.out.drewN rn)).mono ?_; rintro e w5 ⟨x, y, rfl, h5, m5, hx5, hy5⟩
  refine hK _ _ ⟨m5.ex, ?_⟩; clear hK K
  have B5 := Lib.hid (HB4.out.new m5.undrew)
  have M5 := Lib.hid m5.undrew
  have S5 := Lib.hid h5
  have HX5 := Lib.hid (show w4.heap.size ≤ x ∧ w4.heap.size ≤ y from ⟨hx5, hy5⟩)
  clear h5 m5 hx5 hy5
  repeat (first | (refine reg_anyT (by rfl) (fun K hK => ?_); go_simp; refine hK _ _ ?_; clear hK K) | (refine reg_read (by rfl) (fun K hK => ?_); go_simp; refine hK _ _ ?_; clear hK K))
  refine reg_eff (by rfl) (fun rn K hK => ?_)
  obtain ⟨w6, hrun, him, hm6, hz6⟩ := (B5.out.drewN rn).map.put Tryd.underlying3 Tryd.underlying74 (by rw [mpO_len]; have := HLN.out; unfold maxLen; omega) HIP.out (.pointer (some ⟨x, 0, none⟩))
  go_simp
  refine hK _ _ ?_; clear hK K
  rw [show (Value.pointer (some ⟨x, 0, none⟩)) = .pointer (some ⟨(⟨x, y, f⟩ : Ow).s, 0, none⟩) from rfl, put_mpO] at him
  refine reg_nil (fun nd => ?_)
  have hne := HB4.out.ne
  have hM4 := HB4.out.lt (.inr (.inl rfl))
  have m46 : Mod (· = M) w4 (w6.drewN nd) := ((mod_w M5.out (fun i h => h.elim)).trans hm6.undrew).drewN nd
  have hcn6 := Lib.hid (HB4.out.cn.mod m46 (by omega))
  have hb6 : (w6.drewN nd).cell? ⟨b, 3, none⟩ = some (.slice (some ⟨g, 0, none⟩) n n) := m46.cell c3 (by show ¬ b = M; omega)
  have hap := HAP.out
  have hS6 := Lib.hid (HS4.out.mod m46 (fun e => (hap M (.inr (.inl rfl))).1 e.symm) (fun e => (hap M (.inr (.inl rfl))).2 e.symm))
  have hT6 := Lib.hid (HT4.out.mod m46 (by have := HB4.out.tab M (.inr (.inl rfl)); omega))
  have him6 := Lib.hid (him.drewN nd)
  have hx6 := Lib.hid (S5.out.mod (hm6.undrew.drewN nd) (by have := HX5.out; omega) (by have := HX5.out; omega))
  have HC := Lib.hid (rareCount b g n s sg 1 c4 f (w6.drewN nd) hb6 hcn6.out hS6.out hT6.out (by decide) HR4.out HN4.out ⟨by omega, (hap g (.inr (.inr (.inl rfl)))).1, (hap g (.inr (.inr (.inl rfl)))).2, by have := HB4.out.tab g (.inr (.inr (.inl rfl))); omega⟩)
  have M46 := Lib.hid m46
  clear him hm6 hz6 hrun m46 hne hM4 c2 c3 hb6 hap
  generalize w6.drewN nd = w6' at *
  go_wp2_with fail
  refine HC.out.mono ?_; rintro e w7 ⟨rfl, hc7, m7⟩
  have hg4 := HB4.out.lt (.inr (.inr (.inl rfl)))
  have hne := HB4.out.ne
  have m47 : Mod (fun i => i = M ∨ i = g) w4 w7 := (mod_w M46.out (fun i e => .inl e)).trans (mod_w m7 (fun i e => .inr e))
  have B7 := Lib.hid (HB4.out.put (peer := peer) m47 (him6.out.mod m7 (by omega)) hc7 (hx6.out.mod m7 (by have := HX5.out; omega) (by have := HX5.out; omega)) HX5.out.1 HX5.out.2)
  have M7 := Lib.hid ((mod_w HM4.out (fun i e => .inr e)).trans m47)
  clear hc7 m7 hg4 hne m47
  go_wp2_with fail
  go_ret
  exact ⟨x, y, rfl, B7.out, M7.out, by have := HX5.out; have := HM4.out.size; omega, by have := HX5.out; have := HM4.out.size; omega⟩

set_option maxRecDepth 100000 in
set_option maxHeartbeats 4000000 in
theorem rareSetFull (peer : Int) (s sg b M g n : Nat) (most : Int) (c : Nat → Int) (ks : List (Int × Ow)) (f : Nat → Bool) (w : World) (h : BD w b M g n most c ks) (hs : BSet w s sg n f) (hp : 1 ≤ peer ∧ peer ≤ 65536) (hno : lkL ks peer = none) (hroom : most ≤ (ks.length : Int)) :
    Calls Tryd.prog 19 #[.pointer (some ⟨b, 0, none⟩), .int .i64 peer, .pointer (some ⟨s, 0, none⟩)] w fun e w' => e = .returned (.int .i64 3) ∧ Mod (fun _ => False) w w' := by
  have c2 := h.head.cell 2; have c0 := h.head.cell 0; have c1 := h.head.cell 1
  have hI : I64 peer := i64_of (by omega) (by omega)
  have hl := h.map.lookOk Tryd.underlying3 Tryd.underlying74 (zeroPtr w) hI
  rw [lk_mpO, hno] at hl
  have hz := zeroPtr
  have H := Lib.hid h
  have HS := Lib.hid hs
  have p1 : ¬ peer < 1 := by omega
  have p2 : ¬ 65536 < peer := by omega
  have p1' : decide (peer < 1) = false := by simpa using p1
  have p2' : decide (65536 < peer) = false := by simpa using p2
  clear h hs hI hno
  go_enter Tryd.func19, Tryd.ntmps19
  go_upto_region 2 with fail
  clear hl
  have hnn : ((n : Int) != (n : Int)) = false := by simp
  refine wp_region2 [] [34] (by kernel_rfl) (by kernel_rfl) ?_
  repeat (first | (refine reg_anyT (by rfl) (fun K hK => ?_); go_simp; refine hK _ _ ?_; clear hK K) | (refine reg_read (by rfl) (fun K hK => ?_); go_simp; refine hK _ _ ?_; clear hK K))
  refine reg_read (by rfl) (fun K hK => ?_); go_simp
  refine ⟨_, fun rn => rd_same (bitsLen s sg n f _ (HS.out.drewN rn)), hK _ _ ?_⟩; clear hK K
  repeat (first | (refine reg_anyT (by rfl) (fun K hK => ?_); go_simp; refine hK _ _ ?_; clear hK K) | (refine reg_read (by rfl) (fun K hK => ?_); go_simp; refine hK _ _ ?_; clear hK K))
  refine reg_nil (fun nd => ?_)
  have md := (Mod.refl (fun _ => False) w).drewN nd
  have H1 := Lib.hid (H.out.new md)
  have HM1 := Lib.hid md
  clear md c0 c1 c2
  generalize w.drewN nd = w1 at *
  have c1 := H1.out.head.cell 1; have c2 := H1.out.head.cell 2
  have hml : ∀ q, (Builtin.len_ #[74] 3 #[.map (some M)]).run Tryd.prog (w1.drewN q) = .ok (.int .i64 (ks.length : Int)) (w1.drewN q) := by
    intro q
    have := (H1.out.map.drewN q).len (T := 74) Tryd.underlying74 3
    rw [mpO_len] at this
    exact this
  go_upto_region 6 with fail
  go_quiet (fail)
  go_wp2_with fail
  go_ret
  exact ⟨rfl, HM1.out.drewN _⟩

set_option maxRecDepth 100000 in
set_option maxHeartbeats 4000000 in
theorem rareSetBad (peer : Int) (so : Option Nat) (b M g n : Nat) (most : Int) (c : Nat → Int) (ks : List (Int × Ow)) (w : World) (h : BD w b M g n most c ks) (hI : I64 peer) (hbad : ¬ (1 ≤ peer ∧ peer ≤ 65536) ∨ so = none ∨ ∃ s sg n' f, so = some s ∧ BSet w s sg n' f ∧ n' ≠ n) :
    Calls Tryd.prog 19 #[.pointer (some ⟨b, 0, none⟩), .int .i64 peer, .pointer (so.map fun s => ⟨s, 0, none⟩)] w fun e w' => e = .returned (.int .i64 1) ∧ Mod (fun _ => False) w w' := by
  by_cases hp : 1 ≤ peer ∧ peer ≤ 65536
  · have p1 : ¬ peer < 1 := by omega
    have p2 : ¬ 65536 < peer := by omega
    have p1' : decide (peer < 1) = false := by simpa using p1
    have p2' : decide (65536 < peer) = false := by simpa using p2
    rcases hbad with hbad | rfl | ⟨s, sg, n', f, rfl, hs, hne⟩
    · exact absurd hp hbad
    · show Calls Tryd.prog 19 #[.pointer (some ⟨b, 0, none⟩), .int .i64 peer, .pointer none] w _
      have c2 := h.head.cell 2; have c0 := h.head.cell 0
      have hl := h.map.lookOk Tryd.underlying3 Tryd.underlying74 (zeroPtr w) hI
      obtain ⟨V, hV⟩ : ∃ V, V = (lkL (mpO ks) peer).getD (.pointer none) := ⟨_, rfl⟩
      obtain ⟨B, hB⟩ : ∃ B, B = (lkL (mpO ks) peer).isSome := ⟨_, rfl⟩
      rw [← hV, ← hB] at hl
      have hz := zeroPtr
      clear h hI hV hB
      go_enter Tryd.func19, Tryd.ntmps19
      go_upto_region 2 with fail
      clear hl
      go_quiet (fail)
      go_wp2_with fail
      go_ret
      exact ⟨rfl, (Mod.refl _ w).drewN _⟩
    · show Calls Tryd.prog 19 #[.pointer (some ⟨b, 0, none⟩), .int .i64 peer, .pointer (some ⟨s, 0, none⟩)] w _
      have HS := Lib.hid hs
      have hnn : ((n' : Int) != (n : Int)) = true := by simp; omega
      clear hs hne
      have c2 := h.head.cell 2; have c0 := h.head.cell 0
      have hl := h.map.lookOk Tryd.underlying3 Tryd.underlying74 (zeroPtr w) hI
      obtain ⟨V, hV⟩ : ∃ V, V = (lkL (mpO ks) peer).getD (.pointer none) := ⟨_, rfl⟩
      obtain ⟨B, hB⟩ : ∃ B, B = (lkL (mpO ks) peer).isSome := ⟨_, rfl⟩
      rw [← hV, ← hB] at hl
      have hz := zeroPtr
      clear h hI hV hB
      go_enter Tryd.func19, Tryd.ntmps19
      go_upto_region 2 with fail
      clear hl
      refine wp_region2 [] [34] (by kernel_rfl) (by kernel_rfl) ?_
      repeat (first | (refine reg_anyT (by rfl) (fun K hK => ?_); go_simp; refine hK _ _ ?_; clear hK K) | (refine reg_read (by rfl) (fun K hK => ?_); go_simp; refine hK _ _ ?_; clear hK K))
      refine reg_read (by rfl) (fun K hK => ?_); go_simp
      refine ⟨_, fun rn => rd_same (bitsLen s sg n' f _ (HS.out.drewN rn)), hK _ _ ?_⟩; clear hK K
      repeat (first | (refine reg_anyT (by rfl) (fun K hK => ?_); go_simp; refine hK _ _ ?_; clear hK K) | (refine reg_read (by rfl) (fun K hK => ?_); go_simp; refine hK _ _ ?_; clear hK K))
      refine reg_nil (fun nd => ?_)
      go_wp2_with fail
      go_ret
      exact ⟨rfl, (Mod.refl _ w).drewN _⟩
  · clear hbad
    by_cases p1 : peer < 1
    · have p1' : decide (peer < 1) = true := by simpa using p1
      clear hp
      have c2 := h.head.cell 2; have c0 := h.head.cell 0
      have hl := h.map.lookOk Tryd.underlying3 Tryd.underlying74 (zeroPtr w) hI
      obtain ⟨V, hV⟩ : ∃ V, V = (lkL (mpO ks) peer).getD (.pointer none) := ⟨_, rfl⟩
      obtain ⟨B, hB⟩ : ∃ B, B = (lkL (mpO ks) peer).isSome := ⟨_, rfl⟩
      rw [← hV, ← hB] at hl
      have hz := zeroPtr
      clear h hI hV hB
      go_enter Tryd.func19, Tryd.ntmps19
      go_upto_region 2 with fail
      clear hl
      go_quiet (fail)
      go_wp2_with fail
      go_ret
      exact ⟨rfl, (Mod.refl _ w).drewN _⟩
    · have p2 : 65536 < peer := by omega
      have p1' : decide (peer < 1) = false := by simpa using p1
      have p2' : decide (65536 < peer) = true := by simpa using p2
      clear hp
      have c2 := h.head.cell 2; have c0 := h.head.cell 0
      have hl := h.map.lookOk Tryd.underlying3 Tryd.underlying74 (zeroPtr w) hI
      obtain ⟨V, hV⟩ : ∃ V, V = (lkL (mpO ks) peer).getD (.pointer none) := ⟨_, rfl⟩
      obtain ⟨B, hB⟩ : ∃ B, B = (lkL (mpO ks) peer).isSome := ⟨_, rfl⟩
      rw [← hV, ← hB] at hl
      have hz := zeroPtr
      clear h hI hV hB
      go_enter Tryd.func19, Tryd.ntmps19
      go_upto_region 2 with fail
      clear hl
      go_quiet (fail)
      go_wp2_with fail
      go_ret
      exact ⟨rfl, (Mod.refl _ w).drewN _⟩
end Go.Proofs.YtjmfhcliggjdgaaDoor

/- Package rarest: Gone, Add, Peers, Pick where nothing is picked; no condition but the table. -/
namespace Go.Proofs.YtjmfhcliggjdgaaDoor
open Go Go.RowKit

theorem BD.cn' {w w2 : World} {b M g n : Nat} {most : Int} {c c2 : Nat → Int} {ks : List (Int × Ow)} (h : BD w b M g n most c ks) (hm : Mod (· = g) w w2) (hc : Cn w2 g n c2) : BD w2 b M g n most c2 ks :=
  ⟨h.head.mod hm (by have := h.ne; omega), h.map.mod hm (by have := h.ne; omega), hc, fun q hq => (h.sets q hq).mod hm (by have := h.off q hq; omega) (by have := h.off q hq; omega), h.ne, h.off, h.two, h.tab⟩
theorem BD.del {w w2 : World} {b M g n : Nat} {most : Int} {c : Nat → Int} {ks : List (Int × Ow)} (h : BD w b M g n most c ks) {peer : Int} (hm : Mod (· = M) w w2) (him : IMap Tryd.prog 3 w2 M (mpO (delL ks peer))) : BD w2 b M g n most c (delL ks peer) :=
  ⟨h.head.mod hm (by have := h.ne; omega), him, h.cn.mod hm (by have := h.ne; omega), fun q hq => (h.sets q (List.mem_filter.1 hq).1).mod hm (by have := h.off q (List.mem_filter.1 hq).1; omega) (by have := h.off q (List.mem_filter.1 hq).1; omega), h.ne, fun q hq => h.off q (List.mem_filter.1 hq).1, h.two.filter _, fun i hi => h.tab i (by
    rcases hi with e | e | e | ⟨q, hq, e⟩
    · exact .inl e
    · exact .inr (.inl e)
    · exact .inr (.inr (.inl e))
    · exact .inr (.inr (.inr ⟨q, (List.mem_filter.1 hq).1, e⟩)))⟩

set_option maxRecDepth 100000 in
set_option maxHeartbeats 4000000 in
theorem rareGone (peer : Int) (o : Ow) (b M g n : Nat) (most : Int) (c : Nat → Int) (ks : List (Int × Ow)) (w : World) (h : BD w b M g n most c ks) (hT : TabW w) (hI : I64 peer) (hr : ∀ k, -900 ≤ c k ∧ c k ≤ 900) (hn : n ≤ 1024) (hyes : lkL ks peer = some o) :
    Calls Tryd.prog 29 #[.pointer (some ⟨b, 0, none⟩), .int .i64 peer] w fun e w' => e = .returned (.int .i64 0) ∧ BD w' b M g n most (cnK c o.f (-1) n) (delL ks peer) ∧ Mod (fun i => i = M ∨ i = g) w w' := by
  have c2 := h.head.cell 2
  have hl := h.map.lookOk Tryd.underlying3 Tryd.underlying74 (zeroPtr w) hI
  rw [lk_mpO, hyes] at hl
  simp only [Option.map_some, Option.getD_some, Option.isSome_some] at hl
  have hz := zeroPtr
  have H := Lib.hid h
  have HIP := Lib.hid hI
  have hmem := lk_some_mem hyes
  have hso := h.sets _ hmem
  have hoff := h.off _ hmem
  have htg := h.tab g (.inr (.inr (.inl rfl)))
  have HCC := Lib.hid (rareCount b g n o.s o.g (-1) c o.f w (h.head.cell 3) h.cn hso hT (by decide) (fun k => by have := hr k; omega) hn ⟨by have := h.ne; omega, by simp only at hoff; omega, by simp only at hoff; omega, by omega⟩)
  clear h hI hmem hso hoff htg hT hr hyes
  go_enter Tryd.func29, Tryd.ntmps29
  go_wp2_with fail
  refine HCC.out.mono ?_; rintro e w2 ⟨rfl, hc, m2⟩
  have B2 := Lib.hid (H.out.cn' m2 hc)
  have M2 := Lib.hid m2
  have k2 := B2.out.head.cell 2
  obtain ⟨w6, hrun, him, hm6, hz6⟩ := B2.out.map.del Tryd.underlying3 Tryd.underlying74 0 HIP.out
  rw [del_mpO] at him
  have B6 := Lib.hid (B2.out.del hm6 him)
  have M6 := Lib.hid ((mod_w (Q := fun i => i = M ∨ i = g) M2.out (fun i e => .inr e)).trans (mod_w hm6 (fun i e => .inl e)))
  clear hc m2 him hm6 hz6 hl c2
  go_wp2_with fail
  go_ret
  exact ⟨rfl, B6.out, M6.out⟩
set_option maxRecDepth 100000 in
theorem rareGoneNo (peer : Int) (b M g n : Nat) (most : Int) (c : Nat → Int) (ks : List (Int × Ow)) (w : World) (h : BD w b M g n most c ks) (hI : I64 peer) (hno : lkL ks peer = none) :
    Calls Tryd.prog 29 #[.pointer (some ⟨b, 0, none⟩), .int .i64 peer] w fun e w' => e = .returned (.int .i64 4) ∧ w = w' := by
  have c2 := h.head.cell 2
  have hl := h.map.lookOk Tryd.underlying3 Tryd.underlying74 (zeroPtr w) hI
  rw [lk_mpO, hno] at hl
  simp only [Option.map_none, Option.getD_none, Option.isSome_none] at hl
  have hz := zeroPtr
  clear h hI hno
  go_enter Tryd.func29, Tryd.ntmps29
  go_wp2_with fail
  go_ret
  exact ⟨rfl, rfl⟩

theorem pw_sym {α : Type} {R : α → α → Prop} (hs : ∀ x y, R x y → R y x) : ∀ {l : List α}, l.Pairwise R → ∀ x ∈ l, ∀ y ∈ l, x ≠ y → R x y
  | [], _, x, h, _, _, _ => by simp at h
  | z :: t, h, x, hx, y, hy, hne => by
    obtain ⟨h1, h2⟩ := List.pairwise_cons.1 h
    rcases List.mem_cons.1 hx with e1 | hx1
    · rcases List.mem_cons.1 hy with e2 | hy1
      · exact absurd (e1.trans e2.symm) hne
      · rw [e1]; exact h1 y hy1
    · rcases List.mem_cons.1 hy with e2 | hy1
      · rw [e2]; exact hs _ _ (h1 x hx1)
      · exact pw_sym hs h2 x hx1 y hy1 hne
theorem fil_same {f : Nat → Bool} {k : Nat} (h : f k = true) : fil f k (k + 1) true = f := by
  funext x
  unfold fil
  split
  · obtain rfl : x = k := by omega
    exact h.symm
  · rfl
/-- What Add leaves of counts. -/
def addC (c : Nat → Int) (f : Nat → Bool) (k : Nat) : Nat → Int := fun j => if j = k ∧ f k = false then c j + 1 else c j
/-- Behind a piece more of one that is known. -/
theorem BD.more {w w2 w3 : World} {b M g n : Nat} {most : Int} {c c2 : Nat → Int} {ks : List (Int × Ow)} (h : BD w b M g n most c ks) {peer : Int} {o : Ow} {f : Nat → Bool} (hmem : (peer, o) ∈ ks) (_ : Rising ks) (hs : BSet w2 o.s o.g n f) (hm : Mod (· = o.g) w w2) (hm3 : Mod (· = g) w2 w3) (hc : Cn w3 g n c2)
    (him : IMap Tryd.prog 3 w M (mpO (putL ks peer ⟨o.s, o.g, f⟩))) : BD w3 b M g n most c2 (putL ks peer ⟨o.s, o.g, f⟩) := by
  have hoff := h.off _ hmem
  simp only at hoff
  have hpw := pw_sym (R := fun p q : Int × Ow => p.2.s ≠ q.2.s ∧ p.2.s ≠ q.2.g ∧ p.2.g ≠ q.2.s ∧ p.2.g ≠ q.2.g) (fun x y h => by omega) h.two
  have hdel : ∀ q ∈ delL ks peer, q ∈ ks ∧ q ≠ (peer, o) := fun q hq => by
    obtain ⟨h1, h2⟩ := List.mem_filter.1 hq
    refine ⟨h1, fun e => ?_⟩
    rw [e] at h2
    simp at h2
  have hne := h.ne
  have hput : ∀ q ∈ putL ks peer ⟨o.s, o.g, f⟩, q = (peer, ⟨o.s, o.g, f⟩) ∨ q ∈ delL ks peer := fun q hq => by
    unfold putL at hq
    exact mem_insS.1 hq
  refine ⟨(h.head.mod hm (by omega)).mod hm3 (by omega), (him.mod hm (by omega)).mod hm3 (by omega), hc, fun q hq => ?_, h.ne, fun q hq => ?_, ?_, fun i hi => ?_⟩
  · rcases hput q hq with rfl | hq
    · exact hs.mod hm3 (show ¬ o.s = g by omega) (show ¬ o.g = g by omega)
    · obtain ⟨h1, h2⟩ := hdel q hq
      have h3 := hpw _ hmem _ h1 (fun e => h2 e.symm)
      simp only at h3
      have h4 := h.off q h1
      exact ((h.sets q h1).mod hm (by omega) (by omega)).mod hm3 (by omega) (by omega)
  · rcases hput q hq with rfl | hq
    · simp only; omega
    · exact h.off q (hdel q hq).1
  · unfold putL
    refine pairwise_insS _ (h.two.filter _) (fun q hq => ?_) (fun q hq => ?_)
    · obtain ⟨h1, h2⟩ := hdel q hq
      exact hpw (peer, o) hmem q h1 (fun e => h2 e.symm)
    · obtain ⟨h1, h2⟩ := hdel q hq
      exact hpw q h1 (peer, o) hmem h2
  · rcases hi with e | e | e | ⟨q, hq, e⟩
    · exact h.tab i (.inl e)
    · exact h.tab i (.inr (.inl e))
    · exact h.tab i (.inr (.inr (.inl e)))
    · rcases hput q hq with rfl | hq
      · exact h.tab i (.inr (.inr (.inr ⟨(peer, o), hmem, e⟩)))
      · exact h.tab i (.inr (.inr (.inr ⟨q, (hdel q hq).1, e⟩)))
/-- The same pointers: the same map. -/
theorem mpO_same {ks : List (Int × Ow)} {peer : Int} {o : Ow} {f : Nat → Bool} (hr : Rising ks) (hmem : (peer, o) ∈ ks) : mpO (putL ks peer ⟨o.s, o.g, f⟩) = mpO ks := by
  rw [← put_mpO]
  show putL (mpO ks) peer (.pointer (some ⟨o.s, 0, none⟩)) = mpO ks
  have hr2 : Rising (mpO ks) := by unfold Rising mpO; rw [List.pairwise_map]; exact hr
  have hm2 : (peer, Value.pointer (some ⟨o.s, 0, none⟩)) ∈ mpO ks := List.mem_map.2 ⟨_, hmem, rfl⟩
  generalize mpO ks = l at hr2 hm2
  clear hr hmem
  induction l with
  | nil => simp at hm2
  | cons q t ih =>
    obtain ⟨h1, h2⟩ := List.pairwise_cons.1 hr2
    by_cases e : q.1 = peer
    · have hq : q = (peer, Value.pointer (some ⟨o.s, 0, none⟩)) := by
        rcases List.mem_cons.1 hm2 with h | h
        · exact h.symm
        · have := h1 _ h
          simp only at this
          omega
      have hd : delL (q :: t) peer = t := by
        unfold delL
        rw [List.filter_cons, if_neg (by simp [e]), List.filter_eq_self]
        intro y hy
        have := h1 y hy
        simp
        omega
      unfold putL
      rw [hd, hq]
      rw [hq] at h1
      cases t with
      | nil => rfl
      | cons y t2 =>
        have := h1 y (List.mem_cons_self ..)
        simp only at this
        unfold insS
        rw [if_pos this]
    · have ht : (peer, Value.pointer (some ⟨o.s, 0, none⟩)) ∈ t := by
        rcases List.mem_cons.1 hm2 with h | h
        · exact absurd (by rw [← h]) e
        · exact h
      have hlt := h1 _ ht
      simp only at hlt
      have hd : delL (q :: t) peer = q :: delL t peer := by
        unfold delL
        rw [List.filter_cons, if_pos (by simpa using e)]
      have := ih h2 ht
      unfold putL at this ⊢
      rw [hd]
      show insS (peer, _) (q :: delL t peer) = q :: t
      unfold insS
      rw [if_neg (by simp only; omega), this]

theorem keys_mpO (ks : List (Int × Ow)) : keysL (mpO ks) = keysL ks := by
  unfold keysL mpO
  rw [List.map_map]
  rfl
set_option maxRecDepth 100000 in
set_option maxHeartbeats 1000000 in
theorem rarePeers (b M g n : Nat) (most : Int) (c : Nat → Int) (ks : List (Int × Ow)) (w : World) (h : BD w b M g n most c ks) (hlen : ks.length ≤ 1000) :
    Calls Tryd.prog 25 #[.pointer (some ⟨b, 0, none⟩)] w (IntsP (keysL ks) w) := by
  have c2 := h.head.cell 2
  have hk := Tryd.maps_Keys_45 (some M) w
  have hs := Tryd.slices_Sorted_keys_45 M _ (toD (mpO ks)) RV w h.map.owns (by rw [size_toD, mpO_len]; unfold maxLen; omega) (by rw [size_toD, mpO_len]; omega)
  have HK := Lib.hid hk
  have HS := Lib.hid hs
  have HR := Lib.hid h.map.rising
  clear h hk hs
  go_enter Tryd.func25, Tryd.ntmps25
  go_wp2_with fail
  refine HK.out.mono ?_; rintro e w1 ⟨rfl, rfl⟩
  go_wp2_with fail
  refine HS.out.mono ?_; rintro e w2 hq
  have hq2 := IntsP.of_sorted HR.out ((Mod.refl (fun _ => False) w).alloc _) hq
  obtain ⟨v, rfl, o, m⟩ := hq2
  rw [keys_mpO] at o
  have O := Lib.hid o
  have M2 := Lib.hid m
  clear hq o m
  go_wp2_with fail
  go_ret
  exact ⟨v, rfl, O.out, M2.out⟩
end Go.Proofs.YtjmfhcliggjdgaaDoor

/- The reference of rarest: its board, New, find, Peers, Count; no condition. -/
namespace Go.Proofs.YtjmfhcliggjdgaaDoor
open Go Go.RowKit

/-- A list whose values are turned. -/
def mapV {α β : Type} (φ : α → β) (ks : List (Int × α)) : List (Int × β) := ks.map fun q => (q.1, φ q.2)
theorem lk_mapV {α β : Type} (φ : α → β) (ks : List (Int × α)) (id : Int) : lkL (mapV φ ks) id = (lkL ks id).map φ := by
  unfold lkL mapV
  rw [List.find?_map]
  show Option.map _ (Option.map _ (ks.find? fun p => p.1 == id)) = _
  cases ks.find? fun p => p.1 == id <;> rfl
theorem del_mapV {α β : Type} (φ : α → β) (ks : List (Int × α)) (id : Int) : delL (mapV φ ks) id = mapV φ (delL ks id) := by
  unfold delL mapV
  rw [List.filter_map]
  rfl
theorem ins_mapV {α β : Type} (φ : α → β) (id : Int) (o : α) : ∀ ks : List (Int × α), insS (id, φ o) (mapV φ ks) = mapV φ (insS (id, o) ks)
  | [] => rfl
  | q :: t => by
    show insS (id, _) ((q.1, _) :: mapV φ t) = mapV φ (insS (id, o) (q :: t))
    unfold insS
    by_cases h : id < q.1
    · rw [if_pos h, if_pos h]; rfl
    · rw [if_neg h, if_neg h, ins_mapV φ id o t]; rfl
theorem put_mapV {α β : Type} (φ : α → β) (ks : List (Int × α)) (id : Int) (o : α) : putL (mapV φ ks) id (φ o) = mapV φ (putL ks id o) := by
  unfold putL
  rw [del_mapV, ins_mapV]
theorem mapV_len {α β : Type} (φ : α → β) (ks : List (Int × α)) : (mapV φ ks).length = ks.length := by simp [mapV]
theorem keys_mapV {α β : Type} (φ : α → β) (ks : List (Int × α)) : keysL (mapV φ ks) = keysL ks := by
  unfold keysL mapV
  rw [List.map_map]
  rfl
theorem rising_mapV {α β : Type} (φ : α → β) {ks : List (Int × α)} : Rising (mapV φ ks) ↔ Rising ks := by
  unfold Rising mapV
  rw [List.pairwise_map]
/-- How many have a piece. -/
def cF (L : List (Int × (Nat → Bool))) (j : Nat) : Int := (L.map fun q => if q.2 j = true then (1 : Int) else 0).sum
theorem cF_mapV {α : Type} (φ : α → Nat → Bool) (ks : List (Int × α)) (j : Nat) : cF (mapV φ ks) j = (ks.map fun q => if φ q.2 j = true then (1 : Int) else 0).sum := by
  unfold cF mapV
  rw [List.map_map]
  rfl
theorem cF_snoc (L : List (Int × (Nat → Bool))) (q : Int × (Nat → Bool)) (j : Nat) : cF (L ++ [q]) j = cF L j + if q.2 j = true then 1 else 0 := by
  unfold cF
  rw [List.map_append, List.sum_append]
  simp
theorem cF_bd : ∀ (L : List (Int × (Nat → Bool))) (j : Nat), 0 ≤ cF L j ∧ cF L j ≤ L.length
  | [], j => by simp [cF]
  | q :: t, j => by
    have := cF_bd t j
    unfold cF at this ⊢
    rw [List.map_cons, List.sum_cons, List.length_cons]
    split <;> omega

end Go.Proofs.YtjmfhcliggjdgaaDoor

/- The library's table as the row lays it; no condition. -/
namespace Go.Proofs.YtjmfhcliggjdgaaDoor
open Go Go.RowKit Go.ChangeShapes Go.WideShapes Go.ChangeAt Go.Deep

/-- The table's name, as the row has it. -/
abbrev tabT : String := (Rows.connOverRow.laid.map (·.1)).headD ""
abbrev laidT : List (String × DataW Unit) := [(tabT, Rows.laid_math_bits_deBruijn64tab)]
theorem gTabIs : Tryd.prog.globalNamed tabT = some 0 := by kernel_rfl
theorem tTabIs : (Tryd.prog.globals[0]?).map (·.type) = some 111 := by kernel_rfl
theorem door_met (os : Os) (args : Array Value) : laidMetH Tryd.prog laidT ((World.doorLaid Tryd.prog 400 os).forCall (fun _ _ => 0) ⟨#[], args, []⟩).memory :=
  laidMetH_of_parts3 (fuel := 8) (laidMet_of_run' 8 (by kernel_rfl) (by kernel_rfl)) (by kernel_rfl) (by kernel_rfl)
def litI : DataW Unit → Int
  | .lit (.int _ n) => n
  | _ => 0
def litsOf : DataW Unit → List Int
  | .agg l => l.map litI
  | _ => []
theorem litsTab : litsOf (Rows.laid_math_bits_deBruijn64tab : DataW Unit) = Lib.deBruijn64tab.map (fun (n : Nat) => (n : Int)) := by kernel_rfl
theorem of_laid {W : World} (h : laidMetH Tryd.prog laidT W) : TabW W := by
  rw [MakeChecks.laidMetH_plain _ _ _ (by kernel_rfl)] at h
  obtain ⟨ps, ⟨g0, t0, cs0, f0, p0, q0, hg0, ht0, hv0, hd0, _, _⟩, _, _⟩ := h
  obtain rfl := Option.some.inj (gTabIs.symm.trans hg0)
  obtain rfl := Option.some.inj (tTabIs.symm.trans ht0)
  obtain ⟨xs, m1, rfl, hx1, hlen, hn, hel⟩ := DataW.trod_array Tryd.underlying111 hd0
  simp only [Prod.mk.injEq] at hx1
  have hx := hx1.1
  have c1 : Tryd.prog.cellsOf 5 = 1 := by kernel_rfl
  intro j hj
  have hj64 : j < 64 := hj
  have h0 := hel j hj64
  rw [c1, Nat.mul_one] at h0
  obtain ⟨y, hy⟩ : ∃ y, xs[j]? = some y := ⟨_, List.getElem?_eq_getElem (by omega)⟩
  rw [hy] at h0
  obtain ⟨k, e1, e2, _⟩ := DataW.trod_int Tryd.underlying5 h0
  have hk : k = (Lib.deBruijn64tab.getD j 0 : Nat) := by
    have h1 : (Rows.laid_math_bits_deBruijn64tab : DataW Unit) = .agg (xs.map (·.1)) := hx
    have h2 := litsTab
    rw [h1] at h2
    have h3 := congrArg (·[j]?) h2
    simp only [litsOf, List.getElem?_map, hy, Option.map_some] at h3
    have hjl : j < Lib.deBruijn64tab.length := hj
    rw [List.getElem?_eq_getElem hjl, Option.map_some, Option.some.injEq] at h3
    rw [List.getD_eq_getElem?_getD, List.getElem?_eq_getElem hjl, Option.getD_some, ← h3, e2]
    rfl
  subst hk
  have h4 := World.var?_cell hg0 hv0 j
  have h5 : cs0.toList[j]? = some (.int .u8 (Lib.deBruijn64tab.getD j 0 : Nat)) := by
    have h6 := congrArg (·[0]?) e1
    simpa [List.getElem?_take, List.getElem?_drop] using h6
  show W.cell? ⟨0, j, none⟩ = _
  rw [h4]
  simpa using h5
end Go.Proofs.YtjmfhcliggjdgaaDoor

/- The walk of the statement RarestOwn: the call returns true and turns nothing that was there; no condition but the table. -/
namespace Go.Proofs.YtjmfhcliggjdgaaDoor
open Go Go.RowKit

theorem IsRow.bytes {w : World} {a : Option Addr} {len cap : Nat} {zs : List Int} (h : IsRow .u8 w a len cap zs) : ∃ bs : List Nat, bs.length = len ∧ (∀ x ∈ bs, x < 256) ∧ Sl w (.slice a len cap) 1 len (byts bs) := by
  have hs := h.sl
  have hwf : ∀ n ∈ zs.take len, 0 ≤ n ∧ n < 256 := by
    intro n hn
    have hm : n ∈ zs := List.mem_of_mem_take hn
    rcases h with ⟨_, _, _, rfl⟩ | ⟨_, _, _, _, _, _, h⟩
    · cases hm
    · have := h n hm
      simp [Lit.wf, IntKind.min, IntKind.max, IntKind.signed, IntKind.bits] at this
      omega
  have hl := hs.len
  generalize zs.take len = xs at hs hwf hl
  refine ⟨xs.map Int.toNat, by simpa using hl, ?_, ?_⟩
  · intro x hx
    obtain ⟨n, hn, rfl⟩ := List.mem_map.1 hx
    have := hwf n hn
    omega
  · have : byts (xs.map Int.toNat) = xs.map (Value.int .u8) := by
      unfold byts
      rw [List.map_map]
      apply List.map_congr_left
      intro n hn
      have := hwf n hn
      show Value.int .u8 ((n.toNat : Nat) : Int) = _
      rw [Int.toNat_of_nonneg this.1]
    rw [this]; exact hs

theorem strB {w : World} {v : Value} {m : Nat} {bs : List Nat} (h : Sl w v 1 m (byts bs)) : (convert 22 9 v).run Tryd.prog w = .ok (.string (strOf bs)) w :=
  str_conv w 22 9 5 Tryd.underlying22 Tryd.underlying5 Tryd.underlying9 v m bs h
theorem Mod.bel {w w' : World} (h : Mod (fun _ => False) w w') : Below w.heap.size w w' := h.below (Nat.le_refl _) (fun _ h => h.elim)

end Go.Proofs.YtjmfhcliggjdgaaDoor

/- The walk of the statement RarestTurned: the call returns true and turns nothing that was there; no condition but the table. -/
namespace Go.Proofs.YtjmfhcliggjdgaaDoor
open Go Go.RowKit Go.ChangeShapes Go.WideShapes Go.ChangeAt Go.Deep

/-- A slice of bytes, as it lies. -/
structure By where
  a : Option Addr
  len : Nat
  cap : Nat
  bs : List Nat
instance : Inhabited By := ⟨⟨none, 0, 0, []⟩⟩
def IsBss (w : World) (a : Option Addr) (len : Nat) (l : List By) : Prop :=
  l.length = len ∧ (len : Int) ≤ 9223372036854775807 ∧ ∀ i t, l[i]? = some t → (∃ x, a = some x ∧ w.cell? (x.add i) = some (.slice t.a t.len t.cap)) ∧ Sl w (.slice t.a t.len t.cap) 1 t.len (byts t.bs) ∧ ∀ x ∈ t.bs, x < 256
theorem IsBss.new {w w' : World} {a : Option Addr} {len : Nat} {l : List By} (h : IsBss w a len l) (hm : Mod (fun _ => False) w w') : IsBss w' a len l :=
  ⟨h.1, h.2.1, fun i t hi => by
    obtain ⟨⟨x, rfl, h1⟩, h2, h3⟩ := h.2.2 i t hi
    exact ⟨⟨x, rfl, hm.cell h1 (fun h => h)⟩, h2.mod hm (fun _ _ _ _ h => h), h3⟩⟩

/-- Sums. -/
def sm (g : Nat → Int) : Nat → Int
  | 0 => 0
  | k + 1 => sm g k + g k
theorem sm_front (h : Nat → Int) : ∀ m, sm h (m + 1) = h 0 + sm (fun i => h (i + 1)) m
  | 0 => by simp [sm]
  | m + 1 => by
    show sm h (m + 1) + h (m + 1) = h 0 + (sm (fun i => h (i + 1)) m + h (m + 1))
    rw [sm_front h m]
    omega
theorem sm_ext {g h : Nat → Int} : ∀ {m}, (∀ i, i < m → g i = h i) → sm g m = sm h m
  | 0, _ => rfl
  | m + 1, e => by
    show sm g m + g m = sm h m + h m
    rw [sm_ext (fun i hi => e i (by omega)), e m (by omega)]
theorem sm_rev (g : Nat → Int) : ∀ m, sm (fun i => g (m - 1 - i)) m = sm g m
  | 0 => rfl
  | m + 1 => by
    rw [sm_front]
    show g (m + 1 - 1 - 0) + sm (fun i => g (m + 1 - 1 - (i + 1))) m = sm g m + g m
    rw [sm_ext (h := fun i => g (m - 1 - i)) (fun i _ => by congr 1; omega), sm_rev g m, show m + 1 - 1 - 0 = m by omega]
    omega
theorem sm_bd {g : Nat → Int} (h : ∀ i, 0 ≤ g i ∧ g i ≤ 1) : ∀ m, 0 ≤ sm g m ∧ sm g m ≤ m
  | 0 => by simp [sm]
  | m + 1 => by
    have := sm_bd h m
    have := h m
    unfold sm
    omega
def gI (fB : Nat → Nat → Bool) (j i : Nat) : Int := if fB i j = true then 1 else 0
theorem gI_bd (fB : Nat → Nat → Bool) (j i : Nat) : 0 ≤ gI fB j i ∧ gI fB j i ≤ 1 := by unfold gI; split <;> omega
theorem F13_out (n : Nat) (bs : List Nat) {j : Nat} (h : n ≤ j) : F13 n bs j = false := by unfold F13; simp; omega
theorem cnK_add {c : Nat → Int} {f : Nat → Bool} {n : Nat} (hf : ∀ j, n ≤ j → f j = false) (j : Nat) : cnK c f 1 n j = c j + if f j = true then 1 else 0 := by
  unfold cnK
  by_cases h : f j = true
  · have : j < n := by
      rcases Nat.lt_or_ge j n with h2 | h2
      · exact h2
      · rw [hf j h2] at h; cases h
    rw [if_pos ⟨this, h⟩, if_pos h]
  · rw [if_neg (fun e => h e.2), if_neg h]; omega
def csA (fB : Nat → Nat → Bool) (k j : Nat) : Int := sm (gI fB j) k
def csB (fB : Nat → Nat → Bool) (m k j : Nat) : Int := sm (fun i => gI fB j (m - 1 - i)) k
theorem csA_step {fB : Nat → Nat → Bool} {n k : Nat} (hf : ∀ i j, n ≤ j → fB i j = false) : cnK (csA fB k) (fB k) 1 n = csA fB (k + 1) := by
  funext j
  rw [cnK_add (hf k)]
  rfl
theorem csB_step {fB : Nat → Nat → Bool} {n m k : Nat} (hf : ∀ i j, n ≤ j → fB i j = false) : cnK (csB fB m k) (fB (m - 1 - k)) 1 n = csB fB m (k + 1) := by
  funext j
  rw [cnK_add (hf _)]
  rfl
theorem cs_eq (fB : Nat → Nat → Bool) (m : Nat) : csB fB m m = csA fB m := by
  funext j
  exact sm_rev (gI fB j) m
theorem len_putO {α : Type} (ks : List (Int × α)) (id : Int) (v : α) : (putL ks id v).length ≤ ks.length + 1 := by
  unfold putL
  rw [length_insS]
  have : (delL ks id).length ≤ ks.length := List.length_filter_le _ _
  omega
/-- Which peers a board knows. -/
structure Knows (fB : Nat → Nat → Bool) (lo hi : Nat) (ks : List (Int × Ow)) : Prop where
  yes : ∀ i, lo ≤ i → i < hi → ∃ o, lkL ks ((i : Int) + 1) = some o ∧ o.f = fB i
  no : ∀ i : Nat, i < lo ∨ hi ≤ i → lkL ks ((i : Int) + 1) = none
  len : ks.length ≤ hi - lo
theorem Knows.up {fB : Nat → Nat → Bool} {lo hi : Nat} {ks : List (Int × Ow)} (h : Knows fB lo hi ks) (hl : lo ≤ hi) (x y : Nat) : Knows fB lo (hi + 1) (putL ks ((hi : Int) + 1) ⟨x, y, fB hi⟩) := by
  refine ⟨fun i h1 h2 => ?_, fun i hi' => ?_, by have := len_putO ks ((hi : Int) + 1) (⟨x, y, fB hi⟩ : Ow); have := h.len; omega⟩
  · rw [lk_put]
    by_cases e : i = hi
    · subst e; exact ⟨_, if_pos rfl, rfl⟩
    · rw [if_neg (by omega)]; exact h.yes i h1 (by omega)
  · rw [lk_put, if_neg (by omega)]; exact h.no i (by omega)
theorem Knows.down {fB : Nat → Nat → Bool} {lo hi : Nat} {ks : List (Int × Ow)} (h : Knows fB (lo + 1) hi ks) (hl : lo + 1 ≤ hi) (x y : Nat) : Knows fB lo hi (putL ks ((lo : Int) + 1) ⟨x, y, fB lo⟩) := by
  refine ⟨fun i h1 h2 => ?_, fun i hi' => ?_, by have := len_putO ks ((lo : Int) + 1) (⟨x, y, fB lo⟩ : Ow); have := h.len; omega⟩
  · rw [lk_put]
    by_cases e : i = lo
    · subst e; exact ⟨_, if_pos rfl, rfl⟩
    · rw [if_neg (by omega)]; exact h.yes i (by omega) h2
  · rw [lk_put, if_neg (by omega)]; exact h.no i (by omega)
/-- Two boards side by side. -/
structure Side (w : World) (b M g b' M' g' n : Nat) (most : Int) (c c' : Nat → Int) (ks ks' : List (Int × Ow)) : Prop where
  l : BD w b M g n most c ks
  r : BD w b' M' g' n most c' ks'
  lr : ApartO b M g ks M' g'
  rl : ApartO b' M' g' ks' M g
theorem Side.new {w w' : World} {b M g b' M' g' n : Nat} {most : Int} {c c' : Nat → Int} {ks ks' : List (Int × Ow)} (h : Side w b M g b' M' g' n most c c' ks ks') (hm : Mod (fun _ => False) w w') : Side w' b M g b' M' g' n most c c' ks ks' := ⟨h.l.new hm, h.r.new hm, h.lr, h.rl⟩
theorem Side.left {w w2 : World} {b M g b' M' g' n : Nat} {most : Int} {c c' c2 : Nat → Int} {ks ks' : List (Int × Ow)} (h : Side w b M g b' M' g' n most c c' ks ks') {peer : Int} {x y : Nat} {f : Nat → Bool} (h2 : BD w2 b M g n most c2 (putL ks peer ⟨x, y, f⟩)) (hm : Mod (fun i => i = M ∨ i = g) w w2) (hx : w.heap.size ≤ x) (hy : w.heap.size ≤ y) : Side w2 b M g b' M' g' n most c2 c' (putL ks peer ⟨x, y, f⟩) ks' :=
  ⟨h2, h.r.mod hm (fun i hi e => by have := h.rl i hi; omega), h.lr.put (by have := h.r.lt (.inr (.inl rfl)); have := h.r.lt (.inr (.inr (.inl rfl))); omega), h.rl⟩
theorem Side.right {w w2 : World} {b M g b' M' g' n : Nat} {most : Int} {c c' c2 : Nat → Int} {ks ks' : List (Int × Ow)} (h : Side w b M g b' M' g' n most c c' ks ks') {peer : Int} {x y : Nat} {f : Nat → Bool} (h2 : BD w2 b' M' g' n most c2 (putL ks' peer ⟨x, y, f⟩)) (hm : Mod (fun i => i = M' ∨ i = g') w w2) (hx : w.heap.size ≤ x) (hy : w.heap.size ≤ y) : Side w2 b M g b' M' g' n most c c2 ks (putL ks' peer ⟨x, y, f⟩) :=
  ⟨h.l.mod hm (fun i hi e => by have := h.lr i hi; omega), h2, h.lr, h.rl.put (by have := h.l.lt (.inr (.inl rfl)); have := h.l.lt (.inr (.inr (.inl rfl))); omega)⟩
end Go.Proofs.YtjmfhcliggjdgaaDoor

/- The laws on rarest: both boards, what a step does to what is known, and the code's operations whole; no condition but the table. -/
namespace Go.Proofs.YtjmfhcliggjdgaaDoor
open Go Go.RowKit

theorem del_at {α : Type} {ks : List (Int × α)} (hr : Rising ks) {i : Nat} {q : Int × α} (h : ks[i]? = some q) : delL ks q.1 = ks.take i ++ ks.drop (i + 1) := by
  induction ks generalizing i with
  | nil => simp at h
  | cons y t ih =>
    obtain ⟨h1, h2⟩ := List.pairwise_cons.1 hr
    cases i with
    | zero =>
      simp at h
      subst h
      unfold delL
      rw [List.filter_cons, if_neg (by simp)]
      show List.filter _ t = t
      rw [List.filter_eq_self]
      intro x hx
      have := h1 x hx
      simp; omega
    | succ i =>
      have h' : t[i]? = some q := by simpa using h
      have hq := h1 q (List.mem_of_getElem? h')
      have := ih h2 h'
      unfold delL at this ⊢
      rw [List.filter_cons, if_pos (by simp; omega), this]
      rfl

theorem ins_at {α : Type} (x : Int × α) : ∀ (ks : List (Int × α)) (k : Nat), (∀ (j : Nat) (q : Int × α), j < k → ks[j]? = some q → q.1 < x.1) → k ≤ ks.length → (∀ q, ks[k]? = some q → x.1 < q.1) → insS x ks = ks.take k ++ x :: ks.drop k
  | [], k, _, hk, _ => by simp at hk; subst hk; rfl
  | y :: t, 0, _, _, h2 => by
    have := h2 y rfl
    unfold insS
    rw [if_pos this]
    rfl
  | y :: t, k + 1, h1, hk, h2 => by
    have := h1 0 y (by omega) rfl
    unfold insS
    rw [if_neg (by omega), ins_at x t k (fun j q hj hq => h1 (j + 1) q (by omega) (by simpa using hq)) (by simpa using hk) (fun q hq => h2 q (by simpa using hq))]
    rfl

theorem put_at {α : Type} {ks : List (Int × α)} (hr : Rising ks) {i : Nat} {id : Int} {r : α} (h : ks[i]? = some (id, r)) (r' : α) : putL ks id r' = ks.set i (id, r') := by
  have hi := (List.getElem?_eq_some_iff.1 h).1
  unfold putL
  rw [del_at hr h]
  have hlow : ∀ (j : Nat) (q : Int × α), j < i → ks[j]? = some q → q.1 < id := by
    intro j q hj hq
    have hj' := (List.getElem?_eq_some_iff.1 hq).1
    have := List.pairwise_iff_getElem.1 hr j i hj' hi hj
    rw [(List.getElem?_eq_some_iff.1 hq).2, (List.getElem?_eq_some_iff.1 h).2] at this
    exact this
  have hhigh : ∀ (j : Nat) (q : Int × α), i < j → ks[j]? = some q → id < q.1 := by
    intro j q hj hq
    have hj' := (List.getElem?_eq_some_iff.1 hq).1
    have := List.pairwise_iff_getElem.1 hr i j hi hj' hj
    rw [(List.getElem?_eq_some_iff.1 hq).2, (List.getElem?_eq_some_iff.1 h).2] at this
    exact this
  have hlt : (ks.take i).length = i := by simp; omega
  rw [ins_at (id, r') (ks.take i ++ ks.drop (i + 1)) i ?_ (by simp; omega) ?_, List.take_append_of_le_length (by omega), List.take_of_length_le (by omega), List.drop_append_of_le_length (by omega), List.drop_of_length_le (by omega), List.nil_append, List.set_eq_take_append_cons_drop, if_pos hi]
  · intro j q hj hq
    rw [List.getElem?_append_left (by omega), List.getElem?_take, if_pos hj] at hq
    exact hlow j q hj hq
  · intro q hq
    rw [List.getElem?_append_right (by omega), hlt, Nat.sub_self, List.getElem?_drop] at hq
    exact hhigh _ q (by omega) hq

set_option maxRecDepth 100000 in
set_option maxHeartbeats 4000000 in
theorem rarePickNo (peer seed : Int) (so : Option Nat) (b M g n : Nat) (most : Int) (c : Nat → Int) (ks : List (Int × Ow)) (w : World) (h : BD w b M g n most c ks) (hI : I64 peer) (hbad : lkL ks peer = none ∨ so = none ∨ ∃ s sg n' f, so = some s ∧ BSet w s sg n' f ∧ n' ≠ n) :
    Calls Tryd.prog 23 #[.pointer (some ⟨b, 0, none⟩), .int .i64 peer, .pointer (so.map fun s => ⟨s, 0, none⟩), .int .u64 seed] w fun e w' => e = .returned (.int .i64 (-1)) ∧ Mod (fun _ => False) w w' := by
  have c2 := h.head.cell 2; have c0 := h.head.cell 0
  have hlk := h.map.lookOk Tryd.underlying3 Tryd.underlying74 (zeroPtr w) hI
  rw [lk_mpO] at hlk
  have hz := zeroPtr
  cases hl : lkL ks peer with
  | none =>
    rw [hl] at hlk
    simp only [Option.map_none, Option.getD_none, Option.isSome_none] at hlk
    obtain ⟨pv, hpv⟩ : ∃ p, p = so.map fun s => (⟨s, 0, none⟩ : Addr) := ⟨_, rfl⟩
    rw [← hpv]
    clear h hI hl hbad hpv
    go_enter Tryd.func23, Tryd.ntmps23
    go_upto_region 2 with fail
    go_quiet (fail)
    go_wp2_with fail
    go_ret
    exact ⟨rfl, (Mod.refl _ w).drewN _⟩
  | some o =>
    rw [hl] at hlk
    simp only [Option.map_some, Option.getD_some, Option.isSome_some] at hlk
    rcases hbad with hbad | rfl | ⟨s, sg, n', f, rfl, hs, hne⟩
    · rw [hl] at hbad; cases hbad
    · show Calls Tryd.prog 23 #[.pointer (some ⟨b, 0, none⟩), .int .i64 peer, .pointer none, .int .u64 seed] w _
      clear h hI hl
      go_enter Tryd.func23, Tryd.ntmps23
      go_upto_region 2 with fail
      go_quiet (fail)
      go_wp2_with fail
      go_ret
      exact ⟨rfl, (Mod.refl _ w).drewN _⟩
    · show Calls Tryd.prog 23 #[.pointer (some ⟨b, 0, none⟩), .int .i64 peer, .pointer (some ⟨s, 0, none⟩), .int .u64 seed] w _
      have HS := Lib.hid hs
      have hnn : ((n' : Int) != (n : Int)) = true := by simp; omega
      clear h hI hl hs hne
      go_enter Tryd.func23, Tryd.ntmps23
      go_upto_region 2 with fail
      clear hlk
      refine wp_region2 [] [34] (by kernel_rfl) (by kernel_rfl) ?_
      repeat (first | (refine reg_anyT (by rfl) (fun K hK => ?_); go_simp; refine hK _ _ ?_; clear hK K) | (refine reg_read (by rfl) (fun K hK => ?_); go_simp; refine hK _ _ ?_; clear hK K))
      refine reg_read (by rfl) (fun K hK => ?_); go_simp
      refine ⟨_, fun rn => rd_same (bitsLen s sg n' f _ (HS.out.drewN rn)), hK _ _ ?_⟩; clear hK K
      repeat (first | (refine reg_anyT (by rfl) (fun K hK => ?_); go_simp; refine hK _ _ ?_; clear hK K) | (refine reg_read (by rfl) (fun K hK => ?_); go_simp; refine hK _ _ ?_; clear hK K))
      refine reg_nil (fun nd => ?_)
      go_wp2_with fail
      go_ret
      exact ⟨rfl, (Mod.refl _ w).drewN _⟩

abbrev LB := List (Int × (Nat → Bool))
/-- The document's steps over what is known. -/
def setA (n : Nat) (most : Int) (L : LB) (peer : Int) (x : Option (Nat × (Nat → Bool))) : Int × LB :=
  match x with
  | none => (1, L)
  | some (m, f) => if (1 ≤ peer ∧ peer ≤ 65536) ∧ m = n then (if (lkL L peer).isSome = true ∨ (L.length : Int) < most then (0, putL L peer f) else (3, L)) else (1, L)
def addA (n : Nat) (L : LB) (peer k : Int) : Int × LB :=
  match lkL L peer with
  | none => (4, L)
  | some f => if 0 ≤ k ∧ k < n then (0, putL L peer (fil f k.toNat (k.toNat + 1) true)) else (1, L)
def goneA (L : LB) (peer : Int) : Int × LB := if (lkL L peer).isSome = true then (0, delL L peer) else (4, L)
def pickA (n : Nat) (L : LB) (peer : Int) (x : Option (Nat × (Nat → Bool))) (seed : Int) : Int :=
  match x with
  | none => -1
  | some (m, f) => if m = n then (match lkL L peer with | none => -1 | some o => pickR (cF L) (fLess o f) n seed) else -1
structure OkB (most : Int) (L : LB) : Prop where
  rise : Rising L
  len : (L.length : Int) ≤ most
  i64 : ∀ q ∈ L, I64 q.1
theorem len_put_known {α : Type} {L : List (Int × α)} (hr : Rising L) {p : Int} (h : (lkL L p).isSome = true) (v : α) : (putL L p v).length = L.length := by
  obtain ⟨o, ho⟩ := Option.isSome_iff_exists.1 h
  obtain ⟨i, hi⟩ := List.mem_iff_getElem?.1 (lk_some_mem ho)
  rw [put_at hr hi, List.length_set]
theorem OkB.set {n : Nat} {most : Int} {L : LB} (h : OkB most L) (peer : Int) (x : Option (Nat × (Nat → Bool))) : OkB most (setA n most L peer x).2 := by
  unfold setA
  cases x with
  | none => exact h
  | some q =>
    obtain ⟨m, f⟩ := q
    dsimp only
    split
    · split
      · rename_i hc
        rename_i hp
        refine ⟨rising_put h.rise _ _, ?_, fun q hq => (mem_putO hq).elim (fun e => by rw [e]; exact i64_of (by dsimp only; omega) (by dsimp only; omega)) (h.i64 q)⟩
        by_cases hk : (lkL L peer).isSome = true
        · rw [len_put_known h.rise hk]; exact h.len
        · have := len_putO L peer f
          have := hc.resolve_left hk
          dsimp only
          omega
      · exact h
    · exact h
theorem OkB.add {n : Nat} {most : Int} {L : LB} (h : OkB most L) (peer k : Int) : OkB most (addA n L peer k).2 := by
  unfold addA
  cases hl : lkL L peer with
  | none => exact h
  | some f =>
    dsimp only
    split
    · refine ⟨rising_put h.rise _ _, ?_, fun q hq => (mem_putO hq).elim (fun e => by rw [e]; exact (show I64 peer from h.i64 (peer, f) (lk_some_mem hl))) (h.i64 q)⟩
      dsimp only
      rw [len_put_known h.rise (by rw [hl]; rfl)]
      exact h.len
    · exact h
theorem OkB.gone {most : Int} {L : LB} (h : OkB most L) (peer : Int) : OkB most (goneA L peer).2 := by
  unfold goneA
  split
  · refine ⟨rising_del h.rise _, ?_, fun q hq => h.i64 q (List.mem_filter.1 hq).1⟩
    have : (delL L peer).length ≤ L.length := List.length_filter_le _ _
    have := h.len
    dsimp only
    omega
  · exact h

theorem BD.ext {w : World} {b M g n : Nat} {most : Int} {c c' : Nat → Int} {ks : List (Int × Ow)} (h : BD w b M g n most c ks) (e : ∀ k, k < n → c' k = c k) : BD w b M g n most c' ks :=
  ⟨h.head, h.map, h.cn.ext e, h.sets, h.ne, h.off, h.two, h.tab⟩
theorem BD.rising {w : World} {b M g n : Nat} {most : Int} {c : Nat → Int} {ks : List (Int × Ow)} (h : BD w b M g n most c ks) : Rising ks := by
  have := h.map.rising
  unfold mpO at this
  exact (rising_mapV (fun o : Ow => Value.pointer (some ⟨o.s, 0, none⟩))).1 this
theorem cO_cF (ks : List (Int × Ow)) (j : Nat) : cO ks j = cF (mapV Ow.f ks) j := by rw [cF_mapV]; rfl

/-- What a step of the code leaves. -/
def CodeP (b M g n : Nat) (most : Int) (ks : List (Int × Ow)) (L1 : LB) (w w' : World) : Prop := ∃ k1, BD w' b M g n most (cO k1) k1 ∧ mapV Ow.f k1 = L1 ∧ Mod (BDb b M g ks) w w' ∧ ∀ i, BDb b M g k1 i → BDb b M g ks i ∨ w.heap.size ≤ i

theorem CodeP.same {w w' : World} {b M g n : Nat} {most : Int} {ks : List (Int × Ow)} {L : LB} (h : BD w b M g n most (cO ks) ks) (he : mapV Ow.f ks = L) (hm : Mod (fun _ => False) w w') : CodeP b M g n most ks L w w' :=
  ⟨ks, h.new hm, he, hm.mono fun _ _ h => h.elim, fun _ h => .inl h⟩

/-- A set of the code's, or none. -/
def SoB (lo : Nat) (w : World) (so : Option Nat) (x : Option (Nat × (Nat → Bool))) : Prop := (so = none ∧ x = none) ∨ ∃ s sg n f, so = some s ∧ x = some (n, f) ∧ BSet w s sg n f ∧ lo ≤ s ∧ lo ≤ sg
theorem lk_abs {ks : List (Int × Ow)} {L : LB} (h : mapV Ow.f ks = L) (p : Int) : lkL L p = (lkL ks p).map Ow.f := by rw [← h, lk_mapV]

theorem bdb_put {b M g : Nat} {ks : List (Int × Ow)} {peer : Int} {x y z : Nat} {f : Nat → Bool} (hx : z ≤ x) (hy : z ≤ y) : ∀ i, BDb b M g (putL ks peer ⟨x, y, f⟩) i → BDb b M g ks i ∨ z ≤ i := by
  intro i hi
  rcases hi with e | e | e | ⟨q, hq, e⟩
  · exact .inl (.inl e)
  · exact .inl (.inr (.inl e))
  · exact .inl (.inr (.inr (.inl e)))
  · rcases mem_putO hq with rfl | hq
    · rcases e with e | e
      · exact .inr (by rw [e]; exact hx)
      · exact .inr (by rw [e]; exact hy)
    · exact .inl (.inr (.inr (.inr ⟨q, hq, e⟩)))
theorem cO_rng {ks : List (Int × Ow)} (h : ks.length ≤ 64) : ∀ k, -900 ≤ cO ks k ∧ cO ks k ≤ 900 := fun k => by have := cO_bd ks k; omega

/-- The code's Set, whole. -/
theorem codeSet (peer : Int) (so : Option Nat) (x : Option (Nat × (Nat → Bool))) (b M g n : Nat) (most : Int) (ks : List (Int × Ow)) (L : LB) (w : World) (h : BD w b M g n most (cO ks) ks) (he : mapV Ow.f ks = L) (hT : TabW w) (hl : ks.length ≤ 64) (hn : n ≤ 1024) (hI : I64 peer) {lo : Nat} (hs : SoB lo w so x) (hlo : ∀ i, BDb b M g ks i → i < lo) :
    Calls Tryd.prog 19 #[.pointer (some ⟨b, 0, none⟩), .int .i64 peer, .pointer (so.map fun s => ⟨s, 0, none⟩)] w fun e w' => e = .returned (.int .i64 (setA n most L peer x).1) ∧ CodeP b M g n most ks (setA n most L peer x).2 w w' := by
  have hbad : (¬ (1 ≤ peer ∧ peer ≤ 65536) ∨ so = none ∨ ∃ s sg n' f, so = some s ∧ BSet w s sg n' f ∧ n' ≠ n) → setA n most L peer x = (1, L) → Calls Tryd.prog 19 #[.pointer (some ⟨b, 0, none⟩), .int .i64 peer, .pointer (so.map fun s => ⟨s, 0, none⟩)] w (fun e w' => e = .returned (.int .i64 (setA n most L peer x).1) ∧ CodeP b M g n most ks (setA n most L peer x).2 w w') := fun h1 h2 => by
    rw [h2]
    exact (rareSetBad peer so b M g n most (cO ks) ks w h hI h1).mono (by rintro e w1 ⟨rfl, m1⟩; exact ⟨rfl, CodeP.same h he m1⟩)
  rcases hs with ⟨rfl, rfl⟩ | ⟨s, sg, m, f, rfl, rfl, hb, l1, l2⟩
  · exact hbad (.inr (.inl rfl)) rfl
  · by_cases hp : 1 ≤ peer ∧ peer ≤ 65536
    · by_cases hmn : m = n
      · subst hmn
        have hap : ApartO b M g ks s sg := fun i hi => by have := hlo i hi; omega
        have hlen : L.length = ks.length := by rw [← he, mapV_len]
        have hr := h.rising
        have e0 : setA m most L peer (some (m, f)) = if (lkL L peer).isSome = true ∨ (L.length : Int) < most then (0, putL L peer f) else (3, L) := by unfold setA; dsimp only; rw [if_pos ⟨hp, rfl⟩]
        rw [e0]
        have hput : ∀ x y : Nat, mapV Ow.f (putL ks peer ⟨x, y, f⟩) = putL L peer f := fun x y => by rw [← put_mapV, he]
        cases hk : lkL ks peer with
        | some o =>
          rw [if_pos (.inl (by rw [lk_abs he, hk]; rfl))]
          refine (rareSetKnown peer o s sg b M g m most (cO ks) ks f w h hb hT hap hp (cO_rng hl) hn (by omega) hk).mono ?_
          rintro e w1 ⟨x, y, rfl, b1, m1, hx, hy⟩
          refine ⟨rfl, _, b1.ext fun k _ => ?_, hput x y, m1.mono fun i _ e => e.elim (fun e => .inr (.inl e)) fun e => .inr (.inr (.inl e)), bdb_put hx hy⟩
          rw [cO_put, cnK_all hb.out, cnK_all (h.sets _ (lk_some_mem hk)).out, cO_del k hr (lk_some_mem hk)]
          dsimp only
          split <;> split <;> omega
        | none =>
          have hk' : (lkL L peer).isSome = true → False := by rw [lk_abs he, hk]; simp
          by_cases hroom : (L.length : Int) < most
          · rw [if_pos (.inr hroom)]
            refine (rareSetNew peer s sg b M g m most (cO ks) ks f w h hb hT hap hp (cO_rng hl) hn (by omega) hk (by omega)).mono ?_
            rintro e w1 ⟨x, y, rfl, b1, m1, hx, hy⟩
            refine ⟨rfl, _, b1.ext fun k _ => ?_, hput x y, m1.mono fun i _ e => e.elim (fun e => .inr (.inl e)) fun e => .inr (.inr (.inl e)), bdb_put hx hy⟩
            rw [cO_put, cnK_all hb.out, del_none hk]
            dsimp only
            split <;> omega
          · rw [if_neg (by rintro (e | e); exact hk' e; exact hroom e)]
            refine (rareSetFull peer s sg b M g m most (cO ks) ks f w h hb hp hk (by omega)).mono ?_
            rintro e w1 ⟨rfl, m1⟩
            exact ⟨rfl, CodeP.same h he m1⟩
      · exact hbad (.inr (.inr ⟨s, sg, m, f, rfl, hb, hmn⟩)) (by unfold setA; dsimp only; rw [if_neg (fun e => hmn e.2)])
    · exact hbad (.inl hp) (by unfold setA; dsimp only; rw [if_neg (fun e => hp e.1)])
/-- .. Gone. -/
theorem codeGone (peer : Int) (b M g n : Nat) (most : Int) (ks : List (Int × Ow)) (L : LB) (w : World) (h : BD w b M g n most (cO ks) ks) (he : mapV Ow.f ks = L) (hT : TabW w) (hl : ks.length ≤ 64) (hn : n ≤ 1024) (hI : I64 peer) :
    Calls Tryd.prog 29 #[.pointer (some ⟨b, 0, none⟩), .int .i64 peer] w fun e w' => e = .returned (.int .i64 (goneA L peer).1) ∧ CodeP b M g n most ks (goneA L peer).2 w w' := by
  unfold goneA
  rw [lk_abs he]
  cases hk : lkL ks peer with
  | none =>
    refine (rareGoneNo peer b M g n most (cO ks) ks w h hI hk).mono ?_
    rintro e w1 ⟨rfl, rfl⟩
    exact ⟨rfl, CodeP.same h he (Mod.refl _ _)⟩
  | some o =>
    refine (rareGone peer o b M g n most (cO ks) ks w h hT hI (cO_rng hl) hn hk).mono ?_
    rintro e w1 ⟨rfl, b1, m1⟩
    have hmem := lk_some_mem hk
    refine ⟨rfl, _, b1.ext fun i _ => ?_, by rw [← he]; exact (del_mapV Ow.f ks peer).symm, m1.mono fun i _ e => e.elim (fun e => .inr (.inl e)) fun e => .inr (.inr (.inl e)), fun i hi => ?_⟩
    · rw [cnK_all (h.sets _ hmem).out, cO_del i h.rising hmem]
      dsimp only
      split <;> omega
    · rcases hi with e | e | e | ⟨q, hq, e⟩
      · exact .inl (.inl e)
      · exact .inl (.inr (.inl e))
      · exact .inl (.inr (.inr (.inl e)))
      · exact .inl (.inr (.inr (.inr ⟨q, (List.mem_filter.1 hq).1, e⟩)))
/-- .. Pick. -/
theorem codePick (peer seed : Int) (so : Option Nat) (x : Option (Nat × (Nat → Bool))) (b M g n : Nat) (most : Int) (ks : List (Int × Ow)) (L : LB) (w : World) (h : BD w b M g n most (cO ks) ks) (he : mapV Ow.f ks = L) (hT : TabW w) (hn : n ≤ 1024) (hI : I64 peer) {lo : Nat} (hs : SoB lo w so x) :
    Calls Tryd.prog 23 #[.pointer (some ⟨b, 0, none⟩), .int .i64 peer, .pointer (so.map fun s => ⟨s, 0, none⟩), .int .u64 seed] w fun e w' => e = .returned (.int .i64 (pickA n L peer x seed)) ∧ Mod (fun _ => False) w w' := by
  have hbad : (lkL ks peer = none ∨ so = none ∨ ∃ s sg n' f, so = some s ∧ BSet w s sg n' f ∧ n' ≠ n) → pickA n L peer x seed = -1 → Calls Tryd.prog 23 #[.pointer (some ⟨b, 0, none⟩), .int .i64 peer, .pointer (so.map fun s => ⟨s, 0, none⟩), .int .u64 seed] w (fun e w' => e = .returned (.int .i64 (pickA n L peer x seed)) ∧ Mod (fun _ => False) w w') := fun h1 h2 => by
    rw [h2]
    exact rarePickNo peer seed so b M g n most (cO ks) ks w h hI h1
  rcases hs with ⟨rfl, rfl⟩ | ⟨s, sg, m, f, rfl, rfl, hb, l1, l2⟩
  · exact hbad (.inr (.inl rfl)) rfl
  · by_cases hmn : m = n
    · subst hmn
      cases hk : lkL ks peer with
      | none => exact hbad (.inl hk) (by unfold pickA; dsimp only; rw [if_pos rfl, lk_abs he, hk]; rfl)
      | some o =>
        have e0 : pickA m L peer (some (m, f)) seed = pickR (cO ks) (fLess o.f f) m seed := by
          have : cO ks = cF L := by funext j; rw [cO_cF, he]
          rw [this]
          unfold pickA; dsimp only; rw [if_pos rfl, lk_abs he, hk]; rfl
        rw [e0]
        exact rarePick peer seed o s sg b M g m most (cO ks) ks f w h hb hT hI hk hn
    · exact hbad (.inr (.inr ⟨s, sg, m, f, rfl, hb, hmn⟩)) (by unfold pickA; dsimp only; rw [if_neg hmn])
end Go.Proofs.YtjmfhcliggjdgaaDoor

/- The laws on conn: what is known and what is on the way, the program's swarm, what a step of it leaves; no condition. -/
namespace Go.Proofs.YtjmfhcliggjdgaaDoor
open Go Go.RowKit

abbrev LT := List (Int × Fl.Rq)
/-- What is not to be asked for. -/
def outF (n : Nat) (f : Nat → Bool) (T : LT) : Nat → Bool := fun i => decide (i < n) && (f i || (lkL T (i : Int)).isSome)
theorem lk_append {α : Type} (a b : List (Int × α)) (k : Int) : lkL (a ++ b) k = (lkL a k).or (lkL b k) := by
  unfold lkL
  rw [List.find?_append]
  cases a.find? fun p => p.1 == k <;> rfl
theorem outF_nil (n : Nat) (f : Nat → Bool) (i : Nat) (h : ∀ i, n ≤ i → f i = false) : outF n f [] i = f i := by
  unfold outF
  by_cases hi : i < n
  · simp [hi, lkL]
  · simp [hi, h i (by omega)]
theorem outF_snoc (n : Nat) (f : Nat → Bool) (T : LT) (j : Nat) (r : Fl.Rq) (hj : j < n) : outF n f (T ++ [((j : Int), r)]) = fil (outF n f T) j (j + 1) true := by
  funext i
  unfold outF fil
  rw [lk_append]
  by_cases e : i = j
  · subst e
    rw [if_pos (by omega)]
    simp [hj, lkL]
  · rw [if_neg (by omega)]
    have : lkL [((j : Int), r)] (i : Int) = none := by unfold lkL; rw [List.find?_eq_none.2 (by simp; omega)]; rfl
    rw [this, Option.or_none]
theorem outF_put (n : Nat) (f : Nat → Bool) (T : LT) (j : Nat) (r : Fl.Rq) (hj : j < n) : outF n f (putL T (j : Int) r) = fil (outF n f T) j (j + 1) true := by
  funext i
  unfold outF fil
  by_cases e : i = j
  · subst e
    rw [if_pos (by omega), lk_put, if_pos rfl]
    simp [hj]
  · rw [if_neg (by omega), lk_put, if_neg (by omega)]
theorem outF_out (n : Nat) (f : Nat → Bool) (T : LT) (i : Nat) (h : n ≤ i) : outF n f T i = false := by
  unfold outF
  rw [decide_eq_false (by omega)]; rfl

theorem rqL_put (l : LT) (x : Int) (r : Fl.Rq) : Fl.rqL (l ++ [(x, r)]) = Fl.rqL l ++ [.int .i64 r.p, .int .i64 x, .int .i64 r.t] := by unfold Fl.rqL; rw [List.flatMap_append]; rfl
theorem Mod.trans2 {A B : Nat → Prop} {a b c : World} (h : Mod A a b) (k : Mod B b c) (hS : ∀ i, B i → A i ∨ a.heap.size ≤ i) : Mod A a c :=
  ⟨k.os.trans h.os, k.tape.trans h.tape, k.output.trans h.output, Nat.le_trans h.size k.size, fun i hi hs => (k.block i (Nat.lt_of_lt_of_le hi h.size) fun e => (hS i e).elim hs (by omega)).trans (h.block i hi hs)⟩
/-- The blocks of the program's swarm. -/
def SWb (s b M g t tM : Nat) (ks : List (Int × Ow)) (i : Nat) : Prop := i = s ∨ BDb b M g ks i ∨ i = t ∨ i = tM
/-- The program's swarm. -/
structure SW (w : World) (s b M g t tM n : Nat) (pm mo ea pa : Int) (ks : List (Int × Ow)) (T : LT) : Prop where
  blk : Blk w s #[.int .i64 n, .pointer (some ⟨b, 0, none⟩), .pointer (some ⟨t, 0, none⟩)] 52
  bd : BD w b M g n pm (cO ks) ks
  tb : Fl.TB w t tM mo ea pa T
  s1 : ¬ BDb b M g ks s
  s2 : s ≠ t ∧ s ≠ tM
  s3 : ¬ BDb b M g ks t ∧ ¬ BDb b M g ks tM
theorem SW.lt {w : World} {s b M g t tM n : Nat} {pm mo ea pa : Int} {ks : List (Int × Ow)} {T : LT} (h : SW w s b M g t tM n pm mo ea pa ks T) {i : Nat} (hi : SWb s b M g t tM ks i) : i < w.heap.size := by
  rcases hi with rfl | hi | rfl | rfl
  · exact h.blk.lt
  · exact h.bd.lt hi
  · exact h.tb.lt.1
  · exact h.tb.lt.2
theorem SW.mod {S : Nat → Prop} {w w' : World} {s b M g t tM n : Nat} {pm mo ea pa : Int} {ks : List (Int × Ow)} {T : LT} (h : SW w s b M g t tM n pm mo ea pa ks T) (hm : Mod S w w') (hS : ∀ i, SWb s b M g t tM ks i → ¬ S i) : SW w' s b M g t tM n pm mo ea pa ks T :=
  ⟨h.blk.mod hm (hS _ (.inl rfl)), h.bd.mod hm fun i hi => hS i (.inr (.inl hi)), h.tb.mod hm (hS _ (.inr (.inr (.inl rfl)))) (hS _ (.inr (.inr (.inr rfl)))), h.s1, h.s2, h.s3⟩
theorem SW.new {w w' : World} {s b M g t tM n : Nat} {pm mo ea pa : Int} {ks : List (Int × Ow)} {T : LT} (h : SW w s b M g t tM n pm mo ea pa ks T) (hm : Mod (fun _ => False) w w') : SW w' s b M g t tM n pm mo ea pa ks T := h.mod hm fun _ _ h => h
theorem SW.drewN {w : World} {s b M g t tM n : Nat} {pm mo ea pa : Int} {ks : List (Int × Ow)} {T : LT} (h : SW w s b M g t tM n pm mo ea pa ks T) (k : Nat) : SW (w.drewN k) s b M g t tM n pm mo ea pa ks T := h.new ((Mod.refl _ w).drewN k)
/-- The table alone is written. -/
theorem SW.tmod {w w' : World} {s b M g t tM n : Nat} {pm mo ea pa : Int} {ks : List (Int × Ow)} {T T1 : LT} (h : SW w s b M g t tM n pm mo ea pa ks T) (ht : Fl.TB w' t tM mo ea pa T1) (hm : Mod (· = tM) w w') : SW w' s b M g t tM n pm mo ea pa ks T1 :=
  ⟨h.blk.mod hm h.s2.2, h.bd.mod hm fun i hi e => h.s3.2 (by rw [← e]; exact hi), ht, h.s1, h.s2, h.s3⟩
/-- What a step of the program leaves. -/
def StS (s b M g t tM n : Nat) (pm mo ea pa : Int) (ks : List (Int × Ow)) (L1 : LB) (T1 : LT) (w w' : World) : Prop :=
  ∃ k1, SW w' s b M g t tM n pm mo ea pa k1 T1 ∧ mapV Ow.f k1 = L1 ∧ Mod (SWb s b M g t tM ks) w w' ∧ ∀ i, SWb s b M g t tM k1 i → SWb s b M g t tM ks i ∨ w.heap.size ≤ i
theorem StS.tmod {w w' : World} {s b M g t tM n : Nat} {pm mo ea pa : Int} {ks : List (Int × Ow)} {L : LB} {T T1 : LT} (h : SW w s b M g t tM n pm mo ea pa ks T) (he : mapV Ow.f ks = L) (ht : Fl.TB w' t tM mo ea pa T1) (hm : Mod (· = tM) w w') : StS s b M g t tM n pm mo ea pa ks L T1 w w' :=
  ⟨ks, h.tmod ht hm, he, hm.mono fun _ _ e => .inr (.inr (.inr e)), fun _ hi => .inl hi⟩
theorem StS.same {w w' : World} {s b M g t tM n : Nat} {pm mo ea pa : Int} {ks : List (Int × Ow)} {L : LB} {T : LT} (h : SW w s b M g t tM n pm mo ea pa ks T) (he : mapV Ow.f ks = L) (hm : Mod (fun _ => False) w w') : StS s b M g t tM n pm mo ea pa ks L T w w' :=
  ⟨ks, h.new hm, he, hm.mono fun _ _ e => e.elim, fun _ hi => .inl hi⟩
/-- The board alone is written. -/
theorem StS.board {w w' : World} {s b M g t tM n : Nat} {pm mo ea pa : Int} {ks : List (Int × Ow)} {L1 : LB} {T : LT} (h : SW w s b M g t tM n pm mo ea pa ks T) (hc : CodeP b M g n pm ks L1 w w') : StS s b M g t tM n pm mo ea pa ks L1 T w w' := by
  obtain ⟨k1, hbd, he, hm, hnew⟩ := hc
  have hold : ∀ i, SWb s b M g t tM ks i → BDb b M g k1 i → BDb b M g ks i := fun i hi hb => (hnew i hb).elim id fun e => by have := h.lt hi; omega
  refine ⟨k1, ⟨h.blk.mod hm h.s1, hbd, h.tb.mod hm h.s3.1 h.s3.2, fun e => h.s1 (hold _ (.inl rfl) e), h.s2, fun e => h.s3.1 (hold _ (.inr (.inr (.inl rfl))) e), fun e => h.s3.2 (hold _ (.inr (.inr (.inr rfl))) e)⟩, he, hm.mono fun _ _ e => .inr (.inl e), fun i hi => ?_⟩
  rcases hi with e | e | e | e
  · exact .inl (.inl e)
  · exact (hnew i e).imp (fun e => .inr (.inl e)) id
  · exact .inl (.inr (.inr (.inl e)))
  · exact .inl (.inr (.inr (.inr e)))
theorem StS.trans {w w1 w' : World} {s b M g t tM n : Nat} {pm mo ea pa : Int} {ks k1 : List (Int × Ow)} {L2 : LB} {T2 : LT} (hm : Mod (SWb s b M g t tM ks) w w1) (hn : ∀ i, SWb s b M g t tM k1 i → SWb s b M g t tM ks i ∨ w.heap.size ≤ i) (h2 : StS s b M g t tM n pm mo ea pa k1 L2 T2 w1 w') : StS s b M g t tM n pm mo ea pa ks L2 T2 w w' := by
  obtain ⟨k2, h3, e, m2, n2⟩ := h2
  refine ⟨k2, h3, e, hm.trans2 m2 hn, fun i hi => ?_⟩
  rcases n2 i hi with h | h
  · exact hn i h
  · exact .inr (Nat.le_trans hm.size h)
end Go.Proofs.YtjmfhcliggjdgaaDoor

/- Package conn: New, Bits, Have, Gone, right, Peers, Asked, Late, Over; of TrailingZeros64's table: as it is laid. -/
namespace Go.Proofs.YtjmfhcliggjdgaaDoor
open Go Go.RowKit

theorem SW.at {w : World} {s b M g t tM n : Nat} {pm mo ea pa : Int} {ks : List (Int × Ow)} {T : LT} (h : SW w s b M g t tM n pm mo ea pa ks T) : w.cell? ⟨s, 0, none⟩ = some (.int .i64 n) ∧ w.cell? ⟨s, 1, none⟩ = some (.pointer (some ⟨b, 0, none⟩)) ∧ w.cell? ⟨s, 2, none⟩ = some (.pointer (some ⟨t, 0, none⟩)) := ⟨h.blk.cell 0, h.blk.cell 1, h.blk.cell 2⟩

set_option maxRecDepth 100000 in
set_option maxHeartbeats 1000000 in
theorem connNew (n : Nat) (pm mo ea pa : Int) (w : World) (hb : BoardOk n pm) (hf : Fl.NewOk mo ea pa) (hT : TabW w) :
    Calls Tryd.prog 5 #[.int .i64 n, .int .i64 pm, .int .i64 mo, .int .i64 ea, .int .i64 pa] w fun e w' => ∃ s b M g t tM : Nat, e = .returned (.tuple #[.pointer (some ⟨s, 0, none⟩), .int .i64 0]) ∧ SW w' s b M g t tM n pm mo ea pa [] [] ∧ Mod (fun _ => False) w w' ∧ ∀ i, SWb s b M g t tM [] i → w.heap.size ≤ i := by
  have HB := Lib.hid hb
  have HF := Lib.hid hf
  have HT := Lib.hid hT
  clear hb hf hT
  go_enter Tryd.func5, Tryd.ntmps5
  go_wp2_with fail
  refine (rareNew n pm _ HB.out HT.out).mono ?_; rintro e w1 ⟨rfl, h1, m1, z1⟩
  obtain ⟨b, hb⟩ : ∃ b, b = w.heap.size + 2 := ⟨_, rfl⟩
  rw [← hb] at h1 ⊢
  have B1 := Lib.hid h1
  have M1 := Lib.hid m1
  have Z1 := Lib.hid z1
  have HBB := Lib.hid hb
  clear h1 m1 z1 hb
  go_wp2_with fail
  refine (Fl.flNew mo ea pa _ HF.out).mono ?_; rintro e w2 ⟨rfl, h2, m2, z2⟩
  obtain ⟨t, ht⟩ : ∃ b, b = w1.heap.size + 1 := ⟨_, rfl⟩
  rw [← ht] at h2 ⊢
  have B2 := Lib.hid (B1.out.new m2)
  have T2 := Lib.hid h2
  have M2 := Lib.hid (M1.out.trans m2)
  have Z2 := Lib.hid z2
  have HTT := Lib.hid ht
  clear h2 m2 z2 ht B1
  go_wp2_with fail
  go_ret2
  have ma := (Mod.refl (fun _ => False) w2).alloc (.cells #[.int .i64 n, .pointer (some ⟨b, 0, none⟩), .pointer (some ⟨t, 0, none⟩)] 52)
  have z1 := Z1.out
  have z2 := Z2.out
  have hb := HBB.out
  have ht := HTT.out
  have hin : ∀ i, BDb b w.heap.size (w.heap.size + 1) [] i → w.heap.size ≤ i ∧ i < w1.heap.size := fun i hi => by
    rcases hi with e | e | e | ⟨q, hq, _⟩
    · omega
    · omega
    · omega
    · simp at hq
  refine ⟨w2.heap.size, b, w.heap.size, w.heap.size + 1, t, w1.heap.size, rfl, ⟨?_, (B2.out.new ma).ext fun _ _ => rfl, T2.out.new ma, fun e => by have := hin _ e; omega, by omega, fun e => by have := hin _ e; omega, fun e => by have := hin _ e; omega⟩, M2.out.trans ma, fun i hi => ?_⟩
  · have := Blk.new w2 #[.int .i64 n, .pointer (some ⟨b, 0, none⟩), .pointer (some ⟨t, 0, none⟩)] 52
    simpa using this
  · rcases hi with e | e | e | e
    · omega
    · exact (hin i e).1
    · omega
    · omega
set_option maxRecDepth 100000 in
set_option maxHeartbeats 1000000 in
theorem connNewBad (n pm mo ea pa : Int) (w : World) (h : ¬ BoardOk n pm ∨ ¬ Fl.NewOk mo ea pa) (hT : TabW w) :
    Calls Tryd.prog 5 #[.int .i64 n, .int .i64 pm, .int .i64 mo, .int .i64 ea, .int .i64 pa] w fun e w' => e = .returned (.tuple #[.pointer none, .int .i64 1]) ∧ Mod (fun _ => False) w w' := by
  by_cases hb : BoardOk n pm
  · have hf := h.resolve_left (fun e => e hb)
    obtain ⟨n, rfl⟩ : ∃ k : Nat, n = (k : Int) := ⟨n.toNat, by unfold BoardOk at hb; omega⟩
    have HB := Lib.hid hb
    have HF := Lib.hid hf
    have HT := Lib.hid hT
    clear hb hf hT h
    go_enter Tryd.func5, Tryd.ntmps5
    go_wp2_with fail
    refine (rareNew n pm _ HB.out HT.out).mono ?_; rintro e w1 ⟨rfl, h1, m1, z1⟩
    have M1 := Lib.hid m1
    clear h1 m1 z1
    go_wp2_with fail
    refine (Fl.flNewBad mo ea pa _ HF.out).mono ?_; rintro e w2 ⟨rfl, rfl⟩
    go_wp2_with fail
    go_ret2
    exact ⟨rfl, M1.out⟩
  · have HB := Lib.hid hb
    clear hb h hT
    go_enter Tryd.func5, Tryd.ntmps5
    go_wp2_with fail
    refine (rareNewBad n pm _ HB.out).mono ?_; rintro e w1 ⟨rfl, rfl⟩
    go_wp2_with fail
    go_ret2
    exact ⟨rfl, Mod.refl _ _⟩

set_option maxHeartbeats 400000 in
theorem connBits (peer : Int) (so : Option Nat) (x : Option (Nat × (Nat → Bool))) (s b M g t tM n : Nat) (pm mo ea pa : Int) (ks : List (Int × Ow)) (L : LB) (T : LT) (w : World) (h : SW w s b M g t tM n pm mo ea pa ks T) (he : mapV Ow.f ks = L) (hT : TabW w) (hl : ks.length ≤ 64) (hn : n ≤ 1024) (hI : I64 peer) {lo : Nat} (hs : SoB lo w so x) (hlo : ∀ i, BDb b M g ks i → i < lo) :
    Calls Tryd.prog 7 #[.pointer (some ⟨s, 0, none⟩), .int .i64 peer, .pointer (so.map fun s => ⟨s, 0, none⟩)] w fun e w' => e = .returned (.int .i64 (setA n pm L peer x).1) ∧ StS s b M g t tM n pm mo ea pa ks (setA n pm L peer x).2 T w w' := by
  obtain ⟨c0, c1, c2⟩ := h.at
  have HC := Lib.hid (codeSet peer so x b M g n pm ks L w h.bd he hT hl hn hI hs hlo)
  have H := Lib.hid h
  clear h he hT hI hs hlo c0 c2
  go_enter Tryd.func7, Tryd.ntmps7
  go_wp2_with fail
  refine HC.out.mono ?_; rintro e w1 ⟨rfl, h1⟩
  have H1 := Lib.hid (StS.board H.out h1)
  clear h1
  go_wp2_with fail
  go_ret
  exact ⟨rfl, H1.out⟩
/-- What Gone leaves on the way. -/
def goneT (L : LB) (peer : Int) (T : LT) : LT := if (lkL L peer).isSome = true then T.filter (fun x => !(x.2.p == peer)) else T
set_option maxRecDepth 100000 in
set_option maxHeartbeats 1000000 in
theorem connGone (peer : Int) (s b M g t tM n : Nat) (pm mo ea pa : Int) (ks : List (Int × Ow)) (L : LB) (T : LT) (w : World) (h : SW w s b M g t tM n pm mo ea pa ks T) (he : mapV Ow.f ks = L) (hT : TabW w) (hl : ks.length ≤ 64) (hn : n ≤ 1024) (hI : I64 peer) (hlt : T.length ≤ 256) (hti : ∀ q ∈ T, I64 q.1) :
    Calls Tryd.prog 10 #[.pointer (some ⟨s, 0, none⟩), .int .i64 peer] w fun e w' => e = .returned (.int .i64 (goneA L peer).1) ∧ StS s b M g t tM n pm mo ea pa ks (goneA L peer).2 (goneT L peer T) w w' := by
  obtain ⟨c0, c1, c2⟩ := h.at
  have HC := Lib.hid (codeGone peer b M g n pm ks L w h.bd he hT hl hn hI)
  have H := Lib.hid h
  have HTI := Lib.hid hti
  clear h he hT hI c0 c2 hti
  obtain ⟨A, hA⟩ : ∃ A, A = goneA L peer := ⟨_, rfl⟩
  rw [← hA] at HC ⊢
  have HA := Lib.hid hA
  clear hA
  obtain ⟨e0, L1⟩ := A
  go_enter Tryd.func10, Tryd.ntmps10
  go_wp2_with fail
  refine HC.out.mono ?_; rintro e w1 ⟨rfl, h1⟩
  have S1 := StS.board H.out h1
  clear h1 c1
  obtain ⟨k1, h1, f1, m1, n1⟩ := S1
  have c2 := h1.at.2.2
  have H1 := Lib.hid h1
  have F1 := Lib.hid f1
  have M1 := Lib.hid m1
  have N1 := Lib.hid n1
  clear h1 f1 m1 n1
  by_cases hp : (lkL L peer).isSome = true
  · have hA := HA.out
    unfold goneA at hA
    rw [if_pos hp] at hA
    cases hA
    have hgT : goneT L peer T = T.filter (fun x => !(x.2.p == peer)) := by unfold goneT; rw [if_pos hp]
    have HGT := Lib.hid hgT
    clear hgT
    have HD := Lib.hid (Fl.flDrop peer t tM mo ea pa T w1 H1.out.tb (by omega) HTI.out)
    clear hp HC
    go_wp2_with fail
    refine HD.out.mono ?_; rintro e w2 ⟨⟨v, rfl, _⟩, h2, m2⟩
    have S2 := Lib.hid (StS.trans M1.out N1.out (StS.tmod H1.out F1.out h2 m2))
    clear h2 m2
    go_wp2_with fail
    go_ret
    exact ⟨rfl, by rw [HGT.out]; exact S2.out⟩
  · have hA := HA.out
    unfold goneA at hA
    rw [if_neg hp] at hA
    cases hA
    have hgT : goneT L peer T = T := by unfold goneT; rw [if_neg hp]
    have HGT := Lib.hid hgT
    clear hgT hp HC
    go_wp2_with fail
    go_ret
    exact ⟨rfl, _, by rw [HGT.out]; exact H1.out, F1.out, M1.out, N1.out⟩

/-- Whether there may be requests. -/
def rightA (n : Nat) (now : Int) (x : Option (Nat × (Nat → Bool))) : Bool := decide (0 ≤ now ∧ now ≤ 1099511627776) && (match x with | none => false | some (m, _) => decide (m = n))
set_option maxRecDepth 100000 in
set_option maxHeartbeats 1000000 in
theorem connRight (now : Int) (so : Option Nat) (x : Option (Nat × (Nat → Bool))) (s n : Nat) (w : World) (c0 : w.cell? ⟨s, 0, none⟩ = some (.int .i64 n)) {lo : Nat} (hs : SoB lo w so x) :
    Calls Tryd.prog 20 #[.pointer (some ⟨s, 0, none⟩), .int .i64 now, .pointer (so.map fun s => ⟨s, 0, none⟩)] w fun e w' => e = .returned (.bool (rightA n now x)) ∧ Mod (fun _ => False) w w' := by
  rcases hs with ⟨rfl, rfl⟩ | ⟨y, yg, m, f, rfl, rfl, hb, _, _⟩
  · have e0 : rightA n now none = false := by unfold rightA; simp
    rw [e0]
    clear e0
    by_cases h1 : 0 ≤ now
    · by_cases h2 : now ≤ 1099511627776
      · go_enter Tryd.func20, Tryd.ntmps20
        go_wp2_with fail
        go_quiet (fail)
        go_wp2_with fail
        go_ret
        exact ⟨rfl, (Mod.refl _ w).drewN _⟩
      · have h2' : decide (now ≤ 1099511627776) = false := by simpa using h2
        go_enter Tryd.func20, Tryd.ntmps20
        go_wp2_with fail
        go_quiet (fail)
        go_wp2_with fail
        go_ret
        exact ⟨rfl, (Mod.refl _ w).drewN _⟩
    · have h1' : decide (0 ≤ now) = false := by simpa using h1
      go_enter Tryd.func20, Tryd.ntmps20
      go_wp2_with fail
      go_quiet (fail)
      go_wp2_with fail
      go_ret
      exact ⟨rfl, (Mod.refl _ w).drewN _⟩
  · have e0 : rightA n now (some (m, f)) = (decide (0 ≤ now ∧ now ≤ 1099511627776) && decide (m = n)) := rfl
    rw [e0]
    clear e0
    have HB := Lib.hid hb
    clear hb
    by_cases h1 : 0 ≤ now
    · by_cases h2 : now ≤ 1099511627776
      · rw [decide_eq_true (show 0 ≤ now ∧ now ≤ 1099511627776 from ⟨h1, h2⟩), Bool.true_and]
        go_enter Tryd.func20, Tryd.ntmps20
        go_wp2_with fail
        refine wp_region2 [] [34] (by kernel_rfl) (by kernel_rfl) ?_
        repeat (first | (refine reg_anyT (by rfl) (fun K hK => ?_); go_simp; refine hK _ _ ?_; clear hK K) | (refine reg_read (by rfl) (fun K hK => ?_); go_simp; refine hK _ _ ?_; clear hK K))
        refine reg_read (by rfl) (fun K hK => ?_); go_simp
        refine ⟨_, fun rn => rd_same (bitsLen y yg m f _ (HB.out.drewN _)), hK _ _ ?_⟩; clear hK K
        repeat (first | (refine reg_anyT (by rfl) (fun K hK => ?_); go_simp; refine hK _ _ ?_; clear hK K) | (refine reg_read (by rfl) (fun K hK => ?_); go_simp; refine hK _ _ ?_; clear hK K))
        refine reg_nil (fun nd => ?_)
        go_wp2_with fail
        go_ret
        refine ⟨?_, (Mod.refl _ w).drewN _⟩
        by_cases e : m = n
        · subst e; simp
        · have : (m : Int) ≠ n := by omega
          simp [e, this]
      · rw [decide_eq_false (show ¬ (0 ≤ now ∧ now ≤ 1099511627776) by omega), Bool.false_and]
        have h2' : decide (now ≤ 1099511627776) = false := by simpa using h2
        go_enter Tryd.func20, Tryd.ntmps20
        go_wp2_with fail
        go_quiet (fail)
        go_wp2_with fail
        go_ret
        exact ⟨rfl, (Mod.refl _ w).drewN _⟩
    · rw [decide_eq_false (show ¬ (0 ≤ now ∧ now ≤ 1099511627776) by omega), Bool.false_and]
      have h1' : decide (0 ≤ now) = false := by simpa using h1
      go_enter Tryd.func20, Tryd.ntmps20
      go_wp2_with fail
      go_quiet (fail)
      go_wp2_with fail
      go_ret
      exact ⟨rfl, (Mod.refl _ w).drewN _⟩
/-- What Late answers, and what it leaves. -/
def lateL (pa q : Int) (T : LT) : LT := if 0 ≤ q ∧ q ≤ 1099511627776 then T.filter (fun x => decide (pa ≤ q - x.2.t)) else []
def lateE (q : Int) : Int := if 0 ≤ q ∧ q ≤ 1099511627776 then 0 else 1
def lateT (pa q : Int) (T : LT) : LT := if 0 ≤ q ∧ q ≤ 1099511627776 then T.filter (fun x => !decide (pa ≤ q - x.2.t)) else T
/-- A list of requests and an error, in new memory. -/
def RqE (l : LT) (e : Int) (w : World) (x : Ending) (w' : World) : Prop := ∃ v, x = .returned (.tuple #[v, .int .i64 e]) ∧ w'.ownsRow w.heap.size 44 3 v l.length (Fl.rqL l)
/-- Whether a peer was asked for a piece. -/
def overA (T : LT) (peer piece : Int) : Bool := match lkL T piece with | none => false | some r => decide (r.p = peer)
def overT (T : LT) (peer piece : Int) : LT := if overA T peer piece = true then delL T piece else T
set_option maxRecDepth 100000 in
set_option maxHeartbeats 1000000 in
theorem connOver (peer piece : Int) (s b M g t tM n : Nat) (pm mo ea pa : Int) (ks : List (Int × Ow)) (T : LT) (w : World) (h : SW w s b M g t tM n pm mo ea pa ks T) (hI : I64 piece) :
    Calls Tryd.prog 9 #[.pointer (some ⟨s, 0, none⟩), .int .i64 peer, .int .i64 piece] w fun e w' => e = .returned (.bool (overA T peer piece)) ∧ Fl.TB w' t tM mo ea pa (overT T peer piece) ∧ Mod (· = tM) w w' := by
  obtain ⟨c0, c1, c2⟩ := h.at
  have HO := Lib.hid (Fl.flOf piece t tM mo ea pa T w hI h.tb)
  have H := Lib.hid h
  have HI := Lib.hid hI
  cases hl : lkL T piece with
  | none =>
    have e1 : overA T peer piece = false := by unfold overA; rw [hl]
    have e2 : overT T peer piece = T := by unfold overT; rw [e1]; rfl
    rw [e1, e2]
    have hr : Fl.rqAt T piece = Fl.rq0 := by unfold Fl.rqAt; rw [hl]; rfl
    rw [hr, hl] at HO
    clear h c0 c1 hI e1 e2 hr hl
    go_enter Tryd.func9, Tryd.ntmps9
    go_wp2_with fail
    refine HO.out.mono ?_; rintro e w1 ⟨rfl, m1⟩
    have H1 := Lib.hid (H.out.tb.new m1)
    have M1 := Lib.hid m1
    clear m1 HO
    go_wp2_with fail
    go_ret
    exact ⟨rfl, H1.out.new ((Mod.refl _ w1).alloc _), (M1.out.alloc _).mono fun _ _ e => e.elim⟩
  | some r =>
    have e1 : overA T peer piece = decide (r.p = peer) := by unfold overA; rw [hl]
    have hr : Fl.rqAt T piece = Fl.rqv piece r := by unfold Fl.rqAt; rw [hl]; rfl
    rw [hr, hl] at HO
    unfold Fl.rqv at HO
    by_cases hp : r.p = peer
    · have e2 : overT T peer piece = delL T piece := by unfold overT; rw [e1, decide_eq_true hp]; rfl
      rw [e1, e2, decide_eq_true hp]
      subst hp
      clear h c0 c1 hI e1 e2 hr hl
      go_enter Tryd.func9, Tryd.ntmps9
      go_wp2_with fail
      refine HO.out.mono ?_; rintro e w1 ⟨rfl, m1⟩
      have c2' := m1.cell c2 (fun h => h)
      have hlt := Nat.lt_of_lt_of_le H.out.blk.lt m1.size
      have ma := (Mod.refl (fun _ => False) w1).alloc (.cells #[.int .i64 r.p, .int .i64 piece, .int .i64 r.t] 44)
      have HD := Lib.hid (Fl.flDone piece t tM mo ea pa T _ HI.out ((H.out.tb.new m1).new ma))
      have M1 := Lib.hid (m1.trans ma)
      clear m1 ma HO c2
      go_wp2_with fail
      refine HD.out.mono ?_; rintro e w2 ⟨rfl, h2, m2⟩
      obtain ⟨xa, xb, xc, hx⟩ := Fl.rqAt_agg T piece
      rw [hx]
      have H2 := Lib.hid h2
      have M2 := Lib.hid ((M1.out.mono (S' := (· = tM)) fun _ _ e => e.elim).trans m2)
      clear h2 m2 M1 HD
      go_wp2_with fail
      go_ret
      exact ⟨rfl, H2.out, M2.out⟩
    · have e2 : overT T peer piece = T := by unfold overT; rw [e1, decide_eq_false hp]; rfl
      rw [e1, e2, decide_eq_false hp]
      have hne : (r.p == peer) = false := by simpa using hp
      clear h c0 c1 hI e1 e2 hr hl hp
      go_enter Tryd.func9, Tryd.ntmps9
      go_wp2_with fail
      refine HO.out.mono ?_; rintro e w1 ⟨rfl, m1⟩
      have H1 := Lib.hid (H.out.tb.new m1)
      have M1 := Lib.hid m1
      clear m1 HO
      go_wp2_with fail
      go_ret
      exact ⟨rfl, H1.out.new ((Mod.refl _ w1).alloc _), (M1.out.alloc _).mono fun _ _ e => e.elim⟩
end Go.Proofs.YtjmfhcliggjdgaaDoor

/- Package conn: out, Fall; of TrailingZeros64's table: as it is laid. -/
namespace Go.Proofs.YtjmfhcliggjdgaaDoor
open Go Go.RowKit

/-- What is handed back: a new set. -/
def OutB (n : Nat) (F : Nat → Bool) (w : World) (e : Ending) (w' : World) : Prop := ∃ z zg : Nat, e = .returned (.pointer (some ⟨z, 0, none⟩)) ∧ BSet w' z zg n F ∧ Mod (fun _ => False) w w' ∧ w.heap.size ≤ z ∧ w.heap.size ≤ zg
set_option maxRecDepth 100000 in
set_option maxHeartbeats 1000000 in
theorem connOut (y yg : Nat) (f : Nat → Bool) (s b M g t tM n : Nat) (pm mo ea pa : Int) (ks : List (Int × Ow)) (T : LT) (w : World) (h : SW w s b M g t tM n pm mo ea pa ks T) (hy : BSet w y yg n f) (hlt : T.length ≤ 256) (hti : ∀ q ∈ T, I64 q.1) (hkn : ∀ q ∈ T, 0 ≤ q.1 ∧ q.1 < (n : Int)) :
    Calls Tryd.prog 21 #[.pointer (some ⟨s, 0, none⟩), .pointer (some ⟨y, 0, none⟩)] w (OutB n (outF n f T) w) := by
  have c2 := h.at.2.2
  have HTB := Lib.hid h.tb
  have HY := Lib.hid hy
  have HTI := Lib.hid hti
  have HKN := Lib.hid hkn
  have HOF : Hid (outF n f ([] : LT) = fOr f f) := by
    show _ = _
    funext i
    rw [outF_nil n f i hy.out]
    simp [fOr]
  clear h hy hti hkn
  go_enter Tryd.func21, Tryd.ntmps21
  go_wp2_with fail
  refine (bitsOr y yg y yg n f f _ HY.out HY.out).mono ?_; rintro e w1 ⟨z, zg, rfl, h1, m1, l1, l2⟩
  rw [← HOF.out] at h1
  have c2' := m1.cell c2 (fun h => h)
  have HT1 := Lib.hid (HTB.out.new m1)
  have H1 := Lib.hid h1
  have M1 := Lib.hid m1
  have L1 : Hid (w.heap.size ≤ z ∧ w.heap.size ≤ zg) := ⟨l1, l2⟩
  clear c2 h1 m1 l1 l2 HTB HY
  go_wp2_with fail
  refine (Fl.flAll t tM mo ea pa T w1 HT1.out (by omega) HTI.out).mono ?_; rintro e w2 ⟨v, rfl, o2, m2⟩
  obtain ⟨a, cap, rfl, _, hel, _⟩ := o2.els
  have HA : Hid (∀ X, a = some X → w1.heap.size ≤ X.block ∧ X.block < w2.heap.size) := fun X e => by subst e; exact o2.blk X _ _ rfl
  have HE := Lib.hid hel
  have H2 := Lib.hid (H1.out.mod m2 (fun h => h) (fun h => h))
  have M2 := Lib.hid (M1.out.trans m2)
  have hlz : z < w1.heap.size ∧ zg < w1.heap.size := H1.out.lt
  have HLZ := Lib.hid hlz
  clear o2 m2 c2' hel hlz H1 M1
  go_wp2_with fail
  go_loopw [21] (fun i wr => ∃ k : Nat, i = .int .i64 k ∧ k ≤ T.length ∧ Hid (BSet wr z zg n (outF n f (T.take k))) ∧ Mod (· = zg) w2 wr) (fun i _ => T.length - (intOf i).toNat)
  case atStart => exact ⟨0, rfl, Nat.zero_le _, H2.out, Mod.refl _ _⟩
  case round =>
    obtain ⟨k, rfl, hk, hB, hm⟩ := hrel
    by_cases hlt' : (k : Int) < T.length
    · obtain ⟨⟨x, r⟩, hkr⟩ : ∃ q, T[k]? = some q := ⟨_, List.getElem?_eq_getElem (by omega)⟩
      obtain ⟨X, rfl, p0, p1, p2⟩ := Fl.rqEl HE.out (Nat.le_refl _) hkr
      have hX := HA.out X rfl
      have hXz : ∀ q, ¬ (X.add q).block = zg := fun q => by rw [Addr.add_block]; have := HLZ.out; omega
      have p0 := hm.cell p0 (hXz _); have p1 := hm.cell p1 (hXz _); have p2 := hm.cell p2 (hXz _)
      have hxr := HKN.out _ (List.mem_of_getElem? hkr)
      obtain ⟨j, rfl⟩ : ∃ j : Nat, x = (j : Int) := ⟨x.toNat, by have := hxr.1; simp only at this; omega⟩
      have hjn : j < n := by have := hxr.2; simp only at this; omega
      have HST : Hid (outF n f (T.take (k + 1)) = fil (outF n f (T.take k)) j (j + 1) true) := by
        show _ = _
        rw [List.take_add_one, hkr]
        exact outF_snoc n f _ j r hjn
      have HMR := Lib.hid hm
      have hk1 : T.length - (k + 1) < T.length - k := by omega
      clear hkr hxr hX hXz hm
      go_wp2_with fail
      refine (bitsPut z zg n _ j true _ (hB.out.mod ((Mod.refl (fun _ => False) wr).alloc _) (fun h => h) (fun h => h)) hjn).mono ?_; rintro e w4 ⟨rfl, h4, m4⟩
      rw [← HST.out] at h4
      have H4 := Lib.hid h4
      have M4 := Lib.hid ((HMR.out.alloc (.cells #[.int .i64 r.p, .int .i64 j, .int .i64 r.t] 44)).trans m4)
      clear h4 m4 p0 p1 p2
      go_wp2_with fail
      go_roundw
      case rel => exact ⟨k + 1, by go_num, by omega, H4.out, M4.out⟩
      case measure => simp [intOf]; omega
    · have hkT : T.take k = T := List.take_of_length_le (by omega)
      rw [hkT] at hB
      have HM := Lib.hid hm
      clear hm hkT
      go_wp2_with fail
      go_ret
      have hl := L1.out
      exact ⟨z, zg, rfl, hB.out, M2.out.new HM.out (fun i e => by rw [e]; exact hl.2), hl.1, hl.2⟩

/-- What Fall asks for, from one place on. -/
def fallR (mo ea now : Int) (F : Nat → Bool) : Nat → Nat → LT → LT → LT × LT
  | 0, _, T, l => (T, l)
  | m + 1, i, T, l => if F i = true then fallR mo ea now F m (i + 1) T l else if Fl.askE mo ea T 0 i now = 0 then fallR mo ea now F m (i + 1) (putL T i ⟨0, now⟩) (l ++ [((i : Int), ⟨0, now⟩)]) else (T, l)
theorem fallR_nx (mo ea now : Int) (F : Nat → Bool) (n : Nat) (T l : LT) : ∀ (m k : Nat), m = n - k → (nx F false n k = -1 ∧ fallR mo ea now F m k T l = (T, l)) ∨ ∃ i : Nat, nx F false n k = i ∧ k ≤ i ∧ i < n ∧ F i = false ∧ fallR mo ea now F m k T l = fallR mo ea now F (n - i) i T l := by
  intro m
  induction m with
  | zero =>
    intro k hk
    refine .inl ⟨?_, rfl⟩
    unfold nx
    rw [← hk]
    rfl
  | succ m ih =>
    intro k hk
    by_cases hF : F k = true
    · have e : fallR mo ea now F (m + 1) k T l = fallR mo ea now F m (k + 1) T l := by
        show (if F k = true then _ else _) = _
        rw [if_pos hF]
      have e2 : nx F false n k = nx F false n (k + 1) := by
        unfold nx
        rw [show n - k = (n - (k + 1)) + 1 by omega]
        show (if F k = false then _ else _) = _
        rw [if_neg (by rw [hF]; decide)]
      rw [e, e2]
      rcases ih (k + 1) (by omega) with h | ⟨i, h1, h2, h3, h4, h5⟩
      · exact .inl h
      · exact .inr ⟨i, h1, by omega, h3, h4, h5⟩
    · have hF' : F k = false := by simpa using hF
      refine .inr ⟨k, nx_yes hF' (Nat.le_refl _) (by omega) (fun j h1 h2 => by omega), Nat.le_refl _, by omega, hF', ?_⟩
      rw [hk]
theorem fallR_step {mo ea now : Int} {F : Nat → Bool} {n i : Nat} {T l : LT} (h1 : i < n) (h2 : F i = false) : fallR mo ea now F (n - i) i T l = if Fl.askE mo ea T 0 i now = 0 then fallR mo ea now F (n - (i + 1)) (i + 1) (putL T i ⟨0, now⟩) (l ++ [((i : Int), ⟨0, now⟩)]) else (T, l) := by
  rw [show n - i = (n - (i + 1)) + 1 by omega]
  show (if F i = true then _ else _) = _
  rw [if_neg (by rw [h2]; decide)]
/-- What Fall does: the table, the requests, the error. -/
def fallA (n : Nat) (mo ea now : Int) (x : Option (Nat × (Nat → Bool))) (T : LT) : LT × LT × Int :=
  if rightA n now x = true then ((fallR mo ea now (outF n (x.getD (0, fun _ => false)).2 T) n 0 T []).1, (fallR mo ea now (outF n (x.getD (0, fun _ => false)).2 T) n 0 T []).2, 0) else (T, [], 1)
theorem fallA_some {n : Nat} {mo ea now : Int} {f : Nat → Bool} {T : LT} (hq : 0 ≤ now ∧ now ≤ 1099511627776) : fallA n mo ea now (some (n, f)) T = ((fallR mo ea now (outF n f T) n 0 T []).1, (fallR mo ea now (outF n f T) n 0 T []).2, 0) := by
  unfold fallA
  rw [if_pos (by unfold rightA; simp [hq])]
  rfl
theorem rightA_some {n : Nat} {now : Int} {x : Option (Nat × (Nat → Bool))} (h : rightA n now x = true) : (0 ≤ now ∧ now ≤ 1099511627776) ∧ ∃ f, x = some (n, f) := by
  unfold rightA at h
  rw [Bool.and_eq_true] at h
  obtain ⟨h1, h2⟩ := h
  refine ⟨of_decide_eq_true h1, ?_⟩
  cases x with
  | none => cases h2
  | some q => obtain ⟨m, f⟩ := q; exact ⟨f, by rw [of_decide_eq_true h2]⟩
/-- The table of the origin's requests stays as it may be. -/
theorem Fl.Okk.put0 {mo ea : Int} {T : LT} (h : Fl.Okk mo ea T) {p k now : Int} (he : Fl.askE mo ea T p k now = 0) : Fl.Okk mo ea (putL T k ⟨p, now⟩) := by
  have := h.ask p k now
  unfold Fl.askK at this
  rwa [if_pos he] at this

end Go.Proofs.YtjmfhcliggjdgaaDoor

/- What a pick answers; no condition. -/
namespace Go.Proofs.YtjmfhcliggjdgaaDoor
open Go Go.RowKit

/-- Whether one below k is so. -/
def anyB (F : Nat → Bool) : Nat → Bool
  | 0 => false
  | k + 1 => anyB F k || F k
theorem anyB_no {F : Nat → Bool} : ∀ {k : Nat}, anyB F k = false → ∀ y, y < k → F y = false
  | 0, _, y, h => by omega
  | k + 1, h, y, hy => by
    have h' : (anyB F k || F k) = false := h
    obtain ⟨h1, h2⟩ := Bool.or_eq_false_iff.1 h'
    by_cases e : y = k
    · rw [e]; exact h2
    · exact anyB_no h1 y (by omega)
structure PickOk (c : Nat → Int) (F : Nat → Bool) (k : Nat) (l : List Nat) : Prop where
  nil : l = [] → anyB F k = false
  some : l ≠ [] → anyB F k = true
  ok : ∀ x ∈ l, F x = true ∧ x < k ∧ ∀ y, y < k → F y = true → c x ≤ c y
theorem pickL_ok (c : Nat → Int) (F : Nat → Bool) : ∀ k, PickOk c F k (pickL c F k)
  | 0 => ⟨fun _ => rfl, fun h => absurd rfl h, fun x h => by simp [pickL] at h⟩
  | k + 1 => by
    obtain ⟨h1, h2, h3⟩ := pickL_ok c F k
    unfold pickL
    by_cases hk : F k = true
    · rw [if_pos hk]
      have hany : anyB F (k + 1) = true := by show (anyB F k || F k) = true; rw [hk, Bool.or_true]
      cases hl : pickL c F k with
      | nil =>
        have hno := anyB_no (h1 hl)
        show PickOk c F (k + 1) [k]
        refine ⟨fun h => by simp at h, fun _ => hany, fun x hx => ?_⟩
        obtain rfl : x = k := by simpa using hx
        refine ⟨hk, by omega, fun y hy hF => ?_⟩
        by_cases e : y = x
        · rw [e]; exact Int.le_refl _
        · rw [hno y (by omega)] at hF; cases hF
      | cons h t =>
        rw [hl] at h3
        obtain ⟨hF, hlt, hle⟩ := h3 h (List.mem_cons_self ..)
        have hall : ∀ y, y < k + 1 → F y = true → ∀ z, z ≤ c h → z ≤ c k → z ≤ c y := fun y hy hFy z hz1 hz2 => by
          by_cases e : y = k
          · rw [e]; exact hz2
          · have := hle y (by omega) hFy; omega
        show PickOk c F (k + 1) (if c k < c h then [k] else if c k = c h then (h :: t) ++ [k] else h :: t)
        split
        · rename_i hlk
          refine ⟨fun h => by simp at h, fun _ => hany, fun x hx => ?_⟩
          obtain rfl : x = k := by simpa using hx
          exact ⟨hk, by omega, fun y hy hFy => hall y hy hFy _ (by omega) (Int.le_refl _)⟩
        · split
          · rename_i hlk hek
            refine ⟨fun h => by simp at h, fun _ => hany, fun x hx => ?_⟩
            rcases List.mem_append.1 hx with hx | hx
            · obtain ⟨g1, g2, g3⟩ := h3 x hx
              have := g3 h hlt hF
              exact ⟨g1, by omega, fun y hy hFy => hall y hy hFy _ this (by omega)⟩
            · obtain rfl : x = k := by simpa using hx
              exact ⟨hk, by omega, fun y hy hFy => hall y hy hFy _ (by omega) (Int.le_refl _)⟩
          · rename_i hlk hek
            refine ⟨fun h => by simp at h, fun _ => hany, fun x hx => ?_⟩
            obtain ⟨g1, g2, g3⟩ := h3 x hx
            have := g3 h hlt hF
            exact ⟨g1, by omega, fun y hy hFy => hall y hy hFy _ this (by omega)⟩
    · rw [if_neg hk]
      have hk' : F k = false := by simpa using hk
      have hany : anyB F (k + 1) = anyB F k := by show (anyB F k || F k) = _; rw [hk', Bool.or_false]
      refine ⟨fun h => by rw [hany]; exact h1 h, fun h => by rw [hany]; exact h2 h, fun x hx => ?_⟩
      obtain ⟨g1, g2, g3⟩ := h3 x hx
      refine ⟨g1, by omega, fun y hy hFy => ?_⟩
      by_cases e : y = k
      · rw [e, hk'] at hFy; cases hFy
      · exact g3 y (by omega) hFy
/-- What is picked. -/
theorem pickR_ok (c : Nat → Int) (F : Nat → Bool) (n : Nat) (seed : Int) : (pickR c F n seed = -1 ∧ ∀ y, y < n → F y = false) ∨ ∃ x : Nat, pickR c F n seed = x ∧ x < n ∧ F x = true ∧ anyB F n = true ∧ ∀ y, y < n → F y = true → c x ≤ c y := by
  obtain ⟨h1, h2, h3⟩ := pickL_ok c F n
  unfold pickR
  by_cases hl : pickL c F n = []
  · left
    rw [hl]
    exact ⟨rfl, anyB_no (h1 hl)⟩
  · right
    have hpos : 0 < (pickL c F n).length := List.length_pos_iff.2 hl
    rw [if_neg (by omega)]
    obtain ⟨k, hk, hkl⟩ := blw_at seed hpos
    rw [hk, Int.toNat_natCast, List.getD_eq_getElem?_getD, List.getElem?_eq_getElem hkl]
    obtain ⟨g1, g2, g3⟩ := h3 _ (List.getElem_mem hkl)
    exact ⟨_, rfl, g2, g1, h2 hl, g3⟩
end Go.Proofs.YtjmfhcliggjdgaaDoor

/- Package conn: is a number in a list; the asking of one peer for one piece; of TrailingZeros64's table: as it is laid. -/
namespace Go.Proofs.YtjmfhcliggjdgaaDoor
open Go Go.RowKit

theorem sl_ints {w : World} {v : Value} {n : Nat} {xs : List Int} (h : Sl w v 1 n (intL xs)) : xs.length = n ∧ ∃ a c, v = .slice a n c ∧ ∀ i z, xs[i]? = some z → ∃ x, a = some x ∧ w.cell? (x.add i) = some (.int .i64 z) := by
  have hl := h.len
  rw [List.length_map, Nat.mul_one] at hl
  refine ⟨hl, ?_⟩
  rcases h with ⟨rfl, rfl, _⟩ | ⟨x, c, rfl, _, h⟩
  · exact ⟨none, 0, rfl, fun i z hi => by have := (List.getElem?_eq_some_iff.1 hi).1; omega⟩
  · exact ⟨some x, c, rfl, fun i z hi => ⟨x, rfl, h i _ (by rw [List.getElem?_map, hi]; rfl)⟩⟩
set_option maxRecDepth 100000 in
set_option maxHeartbeats 1000000 in
theorem idxInt (v : Value) (n : Nat) (xs : List Int) (p : Int) (w : World) (h : Sl w v 1 n (intL xs)) (hn : n ≤ 9007199254740992) :
    Calls Tryd.prog 46 #[v, .int .i64 p] w fun e w' => (∃ k : Int, e = .returned (.int .i64 k) ∧ decide (0 ≤ k) = decide (p ∈ xs)) ∧ w = w' := by
  obtain ⟨hl, a, c, rfl, hc⟩ := sl_ints h
  have HC := Lib.hid hc
  have HL := Lib.hid hl
  clear h hc hl
  go_enter Tryd.func46, Tryd.ntmps46
  go_wp2_with fail
  go_loopw [8] (fun i wr => ∃ k : Nat, i = .int .i64 k ∧ k ≤ n ∧ Hid (∀ j z, j < k → xs[j]? = some z → z ≠ p) ∧ wr = w) (fun i _ => n - (intOf i).toNat)
  case atStart => exact ⟨0, rfl, Nat.zero_le _, fun j z h => by omega, rfl⟩
  case round =>
    obtain ⟨k, rfl, hk, hno, rfl⟩ := hrel
    by_cases hlt : (k : Int) < n
    · obtain ⟨z, hz⟩ : ∃ z, xs[k]? = some z := ⟨_, List.getElem?_eq_getElem (by have := HL.out; omega)⟩
      obtain ⟨x, rfl, cz⟩ := HC.out k z hz
      have HZ := Lib.hid hz
      have hk1 : n - (k + 1) < n - k := by omega
      clear hz
      by_cases e : p = z
      · subst e
        go_wp2_with fail
        go_ret
        refine ⟨⟨_, rfl, ?_⟩, rfl⟩
        rw [decide_eq_true (List.mem_of_getElem? HZ.out)]
        simp
      · have e' : (p == z) = false := by simpa using e
        go_wp2_with fail
        go_roundw
        case rel =>
          refine ⟨k + 1, by go_num, by omega, fun j y hj hy => ?_, by first | trivial | rfl⟩
          by_cases hjk : j = k
          · subst hjk
            rw [HZ.out] at hy
            cases hy
            exact fun h => e h.symm
          · exact hno.out j y (by omega) hy
        case measure => simp [intOf]; omega
    · have hmem : ¬ p ∈ xs := fun hm => by
        obtain ⟨j, hj⟩ := List.getElem?_of_mem hm
        have := (List.getElem?_eq_some_iff.1 hj).1
        have := HL.out
        exact hno.out j p (by omega) hj rfl
      have HM : Hid (decide (p ∈ xs) = false) := by show _ = _; simpa using hmem
      clear hmem
      go_wp2_with fail
      go_ret
      exact ⟨⟨_, rfl, by have h := HM.out; simp at h; simp [h]⟩, rfl⟩
set_option maxHeartbeats 400000 in
theorem hasInt (v : Value) (n : Nat) (xs : List Int) (p : Int) (w : World) (h : Sl w v 1 n (intL xs)) (hn : n ≤ 9007199254740992) :
    Calls Tryd.prog 26 #[v, .int .i64 p] w fun e w' => e = .returned (.bool (decide (p ∈ xs))) ∧ w = w' := by
  have HI := Lib.hid (idxInt v n xs p w h hn)
  clear h
  go_enter Tryd.func26, Tryd.ntmps26
  go_wp2_with fail
  refine HI.out.mono ?_; rintro e w1 ⟨⟨k, rfl, hk⟩, rfl⟩
  have HKK := Lib.hid hk
  clear hk
  go_wp2_with fail
  go_ret
  exact ⟨by rw [← HKK.out]; rfl, rfl⟩

/-- One more request of a peer: the table and the list behind it; none: it is asked for nothing. -/
def pkS (n : Nat) (L : LB) (f : Nat → Bool) (seed p : Int) (st : LT × LT) : Int := pickA n L p (some (n, outF n f st.1)) (IntKind.u64.wrap (seed + st.2.length))
def askAt (mo ea now p k : Int) (st : LT × LT) : Option (LT × LT) :=
  if k < 0 then none else if Fl.askE mo ea st.1 p k now = 0 then some (putL st.1 k ⟨p, now⟩, st.2 ++ [(k, ⟨p, now⟩)]) else none
def askS (n : Nat) (mo ea : Int) (L : LB) (f : Nat → Bool) (now seed p : Int) (st : LT × LT) : Option (LT × LT) := askAt mo ea now p (pkS n L f seed p st) st
theorem pickA_spec (n : Nat) (L : LB) (p seed : Int) (F : Nat → Bool) : (pickA n L p (some (n, F)) seed = -1 ∧ ∀ o, lkL L p = some o → ∀ y, y < n → o y = true → F y = true) ∨ ∃ x : Nat, pickA n L p (some (n, F)) seed = x ∧ x < n ∧ (∃ o, lkL L p = some o ∧ o x = true) ∧ F x = false := by
  unfold pickA
  dsimp only
  rw [if_pos rfl]
  cases hl : lkL L p with
  | none => exact .inl ⟨rfl, fun o h => by cases h⟩
  | some o =>
    dsimp only
    rcases pickR_ok (cF L) (fLess o F) n seed with ⟨h1, h2⟩ | ⟨x, h1, h2, h3, _, _⟩
    · refine .inl ⟨h1, fun o' ho y hy hoy => ?_⟩
      cases ho
      have := h2 y hy
      unfold fLess at this
      rw [hoy, Bool.true_and] at this
      simpa using this
    · unfold fLess at h3
      rw [Bool.and_eq_true] at h3
      exact .inr ⟨x, h1, h2, ⟨o, rfl, h3.1⟩, by simpa using h3.2⟩

/-- The blocks of an asking. -/
def AskB (cs cn cd cl ct z zg s b M g t tM : Nat) (ks : List (Int × Ow)) (i : Nat) : Prop := SWb s b M g t tM ks i ∨ i = z ∨ i = zg ∨ i = cs ∨ i = cn ∨ i = cd ∨ i = cl ∨ i = ct
/-- What stays while Next asks. -/
structure AskK (base cs cn cd cl ct z zg s b M g t tM n : Nat) (mo : Int) (ks : List (Int × Ow)) (L : LB) : Prop where
  lt : ∀ i, AskB cs cn cd cl ct z zg s b M g t tM ks i → gTab < i ∧ i < base
  n1 : ¬ SWb s b M g t tM ks cl ∧ ¬ SWb s b M g t tM ks zg ∧ z ≠ tM
  n2 : z ≠ cl ∧ zg ≠ cl
  n3 : (cs ≠ tM ∧ cs ≠ zg ∧ cs ≠ cl) ∧ (cn ≠ tM ∧ cn ≠ zg ∧ cn ≠ cl) ∧ (cd ≠ tM ∧ cd ≠ zg ∧ cd ≠ cl) ∧ (ct ≠ tM ∧ ct ≠ zg ∧ ct ≠ cl)
  he : mapV Ow.f ks = L
  sm : mo ≤ 256 ∧ n ≤ 1024
/-- .. and what turns. -/
structure AskI (w : World) (base cs cn cd cl ct z zg s b M g t tM n : Nat) (pm mo ea pa now seed : Int) (ks : List (Int × Ow)) (f : Nat → Bool) (st : LT × LT) : Prop where
  sw : SW w s b M g t tM n pm mo ea pa ks st.1
  set : BSet w z zg n (outF n f st.1)
  b1 : w.cell? ⟨cs, 0, none⟩ = some (.pointer (some ⟨s, 0, none⟩))
  b2 : w.cell? ⟨cn, 0, none⟩ = some (.pointer (some ⟨z, 0, none⟩))
  b3 : w.cell? ⟨cd, 0, none⟩ = some (.int .u64 seed)
  b4 : ∃ v, Blk w cl #[v] 33 ∧ w.ownsRow base Fl.TRq 3 v st.2.length (Fl.rqL st.2)
  b5 : w.cell? ⟨ct, 0, none⟩ = some (.int .i64 now)
  ok : Fl.Okk mo ea st.1
  kn : ∀ q ∈ st.1, q.1 < (n : Int)
  ll : st.2.length ≤ st.1.length
  tab : TabW w
  bb : base ≤ w.heap.size
theorem AskI.new {w w' : World} {base cs cn cd cl ct z zg s b M g t tM n : Nat} {pm mo ea pa now seed : Int} {ks : List (Int × Ow)} {f : Nat → Bool} {st : LT × LT} (h : AskI w base cs cn cd cl ct z zg s b M g t tM n pm mo ea pa now seed ks f st) (hm : Mod (fun _ => False) w w') : AskI w' base cs cn cd cl ct z zg s b M g t tM n pm mo ea pa now seed ks f st := by
  obtain ⟨v, h1, h2⟩ := h.b4
  exact ⟨h.sw.new hm, h.set.mod hm (fun h => h) (fun h => h), hm.cell h.b1 (fun h => h), hm.cell h.b2 (fun h => h), hm.cell h.b3 (fun h => h), ⟨v, h1.mod hm (fun h => h), owns_modG h2 hm fun _ _ h => h⟩, hm.cell h.b5 (fun h => h), h.ok, h.kn, h.ll, h.tab.mod hm (fun h => h), Nat.le_trans h.bb hm.size⟩
/-- An asking that goes on: the table is written, the set, the list. -/
theorem AskI.more {w w2 w3 w4 w5 : World} {base cs cn cd cl ct z zg s b M g t tM n : Nat} {pm mo ea pa now seed : Int} {ks : List (Int × Ow)} {L : LB} {f : Nat → Bool} {T l : LT} (hK : AskK base cs cn cd cl ct z zg s b M g t tM n mo ks L) (h : AskI w base cs cn cd cl ct z zg s b M g t tM n pm mo ea pa now seed ks f (T, l)) {k : Nat} {p : Int} (hk : k < n) (he : Fl.askE mo ea T p k now = 0)
    (hT : Fl.TB w2 t tM mo ea pa (putL T (k : Int) ⟨p, now⟩)) (m2 : Mod (· = tM) w w2) (hS : BSet w3 z zg n (fil (outF n f T) k (k + 1) true)) (m3 : Mod (· = zg) w2 w3) {v v' : Value} (hv : Blk w cl #[v] 33) (m4 : Mod (fun i => base ≤ i) w3 w4) (ho : w4.ownsRow base Fl.TRq 3 v' (l.length + 1) (Fl.rqL (l ++ [((k : Int), ⟨p, now⟩)]))) (h5 : w5 = w4.setCell ⟨cl, 0, none⟩ v') :
    AskI w5 base cs cn cd cl ct z zg s b M g t tM n pm mo ea pa now seed ks f (putL T (k : Int) ⟨p, now⟩, l ++ [((k : Int), ⟨p, now⟩)]) ∧ Mod (fun i => i = tM ∨ i = zg ∨ i = cl ∨ base ≤ i) w w5 := by
  have m5 : Mod (· = cl) w4 w5 := by rw [h5]; exact (Mod.refl (· = cl) w4).set1 0 v'
  have hlk : lkL T (k : Int) = none := by
    cases hl : lkL T (k : Int) with
    | none => rfl
    | some o =>
      exfalso
      unfold Fl.askE at he
      rw [hl] at he
      split at he
      · cases he
      · simp at he
  have hlt := hK.lt
  have hcl := hlt cl (.inr (.inr (.inr (.inr (.inr (.inr (.inl rfl)))))))
  have hzg := hlt zg (.inr (.inr (.inl rfl)))
  have hz := hlt z (.inr (.inl rfl))
  have htM := hlt tM (.inl (.inr (.inr (.inr rfl))))
  have m35 : Mod (fun i => i = cl ∨ base ≤ i) w3 w5 := (m4.mono fun _ _ e => .inr e).trans (m5.mono fun _ _ e => .inl e)
  have m25 : Mod (fun i => i = zg ∨ i = cl ∨ base ≤ i) w2 w5 := (m3.mono fun _ _ e => .inl e).trans (m35.mono fun _ _ e => .inr e)
  have m05 : Mod (fun i => i = tM ∨ i = zg ∨ i = cl ∨ base ≤ i) w w5 := (m2.mono fun _ _ e => .inl e).trans (m25.mono fun _ _ e => .inr e)
  have hx : ∀ {i : Nat} {u : Value}, w.cell? ⟨i, 0, none⟩ = some u → i ≠ tM → i ≠ zg → i ≠ cl → i < base → w5.cell? ⟨i, 0, none⟩ = some u := fun hc h1 h2 h3 h4 => m05.cell hc (by rintro (e | e | e | e); exact h1 e; exact h2 e; exact h3 e; exact absurd e (by simpa using h4))
  have hB := fun i hi => (hlt i hi).2
  obtain ⟨⟨a1, a2, a3⟩, ⟨a4, a5, a6⟩, ⟨a7, a8, a9⟩, ⟨a10, a11, a12⟩⟩ := hK.n3
  refine ⟨⟨(h.sw.tmod hT m2).mod m25 fun i hi => ?_, ?_, hx h.b1 a1 a2 a3 (hB cs (.inr (.inr (.inr (.inl rfl))))), hx h.b2 a4 a5 a6 (hB cn (.inr (.inr (.inr (.inr (.inl rfl)))))), hx h.b3 a7 a8 a9 (hB cd (.inr (.inr (.inr (.inr (.inr (.inl rfl))))))), ⟨v', ?_, ?_⟩, hx h.b5 a10 a11 a12 (hB ct (.inr (.inr (.inr (.inr (.inr (.inr (.inr rfl)))))))), h.ok.put0 he, fun q hq => ?_, ?_, h.tab.mod m05 (by intro e; rcases e with e | e | e | e <;> omega), Nat.le_trans h.bb m05.size⟩, m05⟩
  · rintro (e | e | e)
    · exact hK.n1.2.1 (by rw [← e]; exact hi)
    · exact hK.n1.1 (by rw [← e]; exact hi)
    · have := hB i (.inl hi); omega
  · dsimp only
    rw [outF_put n f T k _ hk]
    exact hS.mod m35 (by rintro (e | e); exact hK.n2.1 e; omega) (by rintro (e | e); exact hK.n2.2 e; omega)
  · have h4 : Blk w4 cl #[v] 33 := (((show Blk w cl #[v] _ from hv).mod m2 (fun e => hK.n1.1 (.inr (.inr (.inr e))))).mod m3 (fun e => hK.n2.2 e.symm)).mod m4 (by omega)
    rw [h5]
    have := h4.set 0 v'
    simpa using this
  · dsimp only
    rw [List.length_append]
    exact owns_modG ho m5 fun i hi e => by omega
  · rcases mem_putO hq with e | e
    · rw [e]; dsimp only; omega
    · exact h.kn q e
  · dsimp only
    unfold putL
    rw [del_none hlk, length_insS, List.length_append]
    have := h.ll
    simp only [List.length_cons, List.length_nil]
    dsimp only at this
    omega

/-- An asking that is refused. -/
theorem AskI.kept {w w2 : World} {base cs cn cd cl ct z zg s b M g t tM n : Nat} {pm mo ea pa now seed : Int} {ks : List (Int × Ow)} {L : LB} {f : Nat → Bool} {T l : LT} (hK : AskK base cs cn cd cl ct z zg s b M g t tM n mo ks L) (h : AskI w base cs cn cd cl ct z zg s b M g t tM n pm mo ea pa now seed ks f (T, l))
    (hT : Fl.TB w2 t tM mo ea pa T) (m2 : Mod (· = tM) w w2) : AskI w2 base cs cn cd cl ct z zg s b M g t tM n pm mo ea pa now seed ks f (T, l) ∧ Mod (fun i => i = tM ∨ i = zg ∨ i = cl ∨ base ≤ i) w w2 := by
  obtain ⟨⟨a1, a2, a3⟩, ⟨a4, a5, a6⟩, ⟨a7, a8, a9⟩, ⟨a10, a11, a12⟩⟩ := hK.n3
  have htM := hK.lt tM (.inl (.inr (.inr (.inr rfl))))
  obtain ⟨v, hv, ho⟩ := h.b4
  exact ⟨⟨h.sw.tmod hT m2, h.set.mod m2 hK.n1.2.2 (fun e => hK.n1.2.1 (.inr (.inr (.inr e)))), m2.cell h.b1 a1, m2.cell h.b2 a4, m2.cell h.b3 a7, ⟨v, hv.mod m2 (fun e => hK.n1.1 (.inr (.inr (.inr e)))), owns_modG ho m2 fun i hi e => by omega⟩, m2.cell h.b5 a10, h.ok, h.kn, h.ll, h.tab.mod m2 (fun e => by omega), Nat.le_trans h.bb m2.size⟩, m2.mono fun _ _ e => .inl e⟩
theorem wrapU {x : Int} (h1 : 0 ≤ x) (h2 : x < 18446744073709551616) : IntKind.u64.wrap x = x := by unfold IntKind.wrap; simp [IntKind.bits, IntKind.signed]; omega
set_option maxRecDepth 100000 in
set_option maxHeartbeats 4000000 in
theorem connAsk (p : Int) (base cs cn cd cl ct z zg s b M g t tM n : Nat) (pm mo ea pa now seed : Int) (ks : List (Int × Ow)) (L : LB) (f : Nat → Bool) (st : LT × LT) (w : World) (hK : AskK base cs cn cd cl ct z zg s b M g t tM n mo ks L) (h : AskI w base cs cn cd cl ct z zg s b M g t tM n pm mo ea pa now seed ks f st) (hI : I64 p) :
    Calls Tryd.prog 22 #[.int .i64 p, .pointer (some ⟨cs, 0, none⟩), .pointer (some ⟨cn, 0, none⟩), .pointer (some ⟨cd, 0, none⟩), .pointer (some ⟨cl, 0, none⟩), .pointer (some ⟨ct, 0, none⟩)] w fun e w' => e = .returned (.bool (askS n mo ea L f now seed p st).isSome) ∧ AskI w' base cs cn cd cl ct z zg s b M g t tM n pm mo ea pa now seed ks f ((askS n mo ea L f now seed p st).getD st) ∧ Mod (fun i => i = tM ∨ i = zg ∨ i = cl ∨ base ≤ i) w w' := by
  obtain ⟨T, l⟩ := st
  have hsm := hK.sm
  have hlen : T.length ≤ 256 := by have := h.ok.len; dsimp only at this; omega
  have hll : l.length ≤ 256 := by have := h.ll; dsimp only at this; omega
  obtain ⟨k, hk⟩ : ∃ k, k = pkS n L f seed p (T, l) := ⟨_, rfl⟩
  obtain ⟨sd, hsd⟩ : ∃ x, x = IntKind.u64.wrap (seed + (l.length : Int)) := ⟨_, rfl⟩
  have hkd : pickA n L p (some (n, outF n f T)) sd = k := by rw [hk, hsd]; rfl
  have hspec := pickA_spec n L p sd (outF n f T)
  rw [hkd] at hspec
  obtain ⟨R, hR⟩ : ∃ R, R = askS n mo ea L f now seed p (T, l) := ⟨_, rfl⟩
  have hRk : R = askAt mo ea now p k (T, l) := by rw [hR, hk]; rfl
  rw [← hR]
  have hP : ∀ rn : Nat, Calls Tryd.prog 23 #[.pointer (some ⟨b, 0, none⟩), .int .i64 p, .pointer (some ⟨z, 0, none⟩), .int .u64 sd] (w.drewN rn) fun e w' => e = .returned (.int .i64 k) ∧ Mod (fun _ => False) (w.drewN rn) w' := fun rn => by
    have hm := (Mod.refl (fun _ => False) w).drewN rn
    have hz := h.set.mod hm (fun h => h) (fun h => h)
    have := codePick p sd (some z) (some (n, outF n f T)) b M g n pm ks L (w.drewN rn) (h.sw.bd.new hm) hK.he (h.tab.mod hm fun h => h) hsm.2 hI (lo := 0) (.inr ⟨z, zg, n, _, rfl, rfl, hz, Nat.zero_le _, Nat.zero_le _⟩)
    rw [hkd] at this
    exact this
  have HP := Lib.hid hP
  obtain ⟨v, hv, ho⟩ := h.b4
  dsimp only at ho
  obtain ⟨a0, cap, rfl, _, _, _⟩ := ho.els
  have a1 := h.b1; have a2 := h.b2; have a3 := h.b3; have a5 := h.b5
  have a4 : w.cell? ⟨cl, 0, none⟩ = some (.slice a0 l.length cap) := hv.cell 0
  have a6 := h.sw.at.2.1
  have a7 := h.sw.at.2.2
  have hw1 : IntKind.u64.wrap (l.length : Int) = l.length := wrapU (by omega) (by omega)
  have hw2 : IntKind.u64.wrap (seed + (l.length : Int)) = sd := hsd.symm
  have HK := Lib.hid hK
  have HI := Lib.hid h
  have HII := Lib.hid hI
  have HSP := Lib.hid hspec
  have HRK := Lib.hid hRk
  have HLN := Lib.hid hlen
  clear hK h hI hP hk hsd hkd hspec hR hRk hsm hv ho hlen
  by_cases hk0 : k < 0
  · have hRn : R = none := by rw [HRK.out]; unfold askAt; rw [if_pos hk0]
    subst hRn
    go_enter Tryd.func22, Tryd.ntmps22
    go_wp2_with fail
    refine wp_region2 [] [] (by kernel_rfl) (by kernel_rfl) ?_
    repeat (first | (refine reg_anyT (by rfl) (fun K hK => ?_); go_simp; refine hK _ _ ?_; clear hK K) | (refine reg_read (by rfl) (fun K hK => ?_); go_simp; refine hK _ _ ?_; clear hK K))
    refine reg_eff (by rfl) (fun rn K hK => ?_); go_simp
    refine (HP.out rn).mono ?_; rintro e w' ⟨rfl, m1⟩
    refine hK _ _ ?_; clear hK K
    repeat (first | (refine reg_anyT (by rfl) (fun K hK => ?_); go_simp; refine hK _ _ ?_; clear hK K) | (refine reg_read (by rfl) (fun K hK => ?_); go_simp; refine hK _ _ ?_; clear hK K))
    refine reg_nil (fun nd => ?_)
    have HI1 := Lib.hid (HI.out.new (m1.undrew.drewN nd))
    have M1 := Lib.hid (m1.undrew.drewN nd)
    clear m1 a1 a2 a3 a4 a5 a6 a7 HI HP
    generalize World.drewN w' nd = w1 at *
    clear w'
    have a1 := HI1.out.b1
    have a5 := HI1.out.b5
    have a7 := HI1.out.sw.at.2.2
    have b0 : decide (k < 0) = true := by simpa using hk0
    go_wp2_with fail
    go_quiet (fail)
    go_wp2_with fail
    go_ret
    exact ⟨rfl, HI1.out.new ((Mod.refl _ w1).drewN _), (M1.out.drewN _).mono fun _ _ e => e.elim⟩
  · obtain ⟨j, rfl⟩ : ∃ j : Nat, k = (j : Int) := ⟨k.toNat, by omega⟩
    have HJN : Hid (j < n) := by
      rcases HSP.out with ⟨h1, _⟩ | ⟨x, h1, h2, _⟩
      · exfalso; omega
      · show j < n; omega
    have HJI : Hid (I64 (j : Int)) := Fl.i64_of (by omega) (by have := HJN.out; have := HK.out.sm; omega)
    obtain ⟨E, hE⟩ : ∃ E, E = Fl.askE mo ea T p j now := ⟨_, rfl⟩
    have HE := Lib.hid hE
    have b0 : decide ((j : Int) < 0) = false := by simp
    by_cases he : E = 0
    · have hRs : R = some (putL T (j : Int) ⟨p, now⟩, l ++ [((j : Int), ⟨p, now⟩)]) := by rw [HRK.out]; unfold askAt; rw [if_neg (by omega)]; dsimp only; rw [← hE, if_pos he]
      subst hRs
      have hK : Fl.askK mo ea T p j now = putL T j ⟨p, now⟩ := by unfold Fl.askK; rw [← hE, if_pos he]
      have HKK := Lib.hid hK
      clear hK hE
      subst he
      go_enter Tryd.func22, Tryd.ntmps22
      go_wp2_with fail
      refine wp_region2 [] [] (by kernel_rfl) (by kernel_rfl) ?_
      repeat (first | (refine reg_anyT (by rfl) (fun K hK => ?_); go_simp; refine hK _ _ ?_; clear hK K) | (refine reg_read (by rfl) (fun K hK => ?_); go_simp; refine hK _ _ ?_; clear hK K))
      refine reg_eff (by rfl) (fun rn K hK => ?_); go_simp
      refine (HP.out rn).mono ?_; rintro e w' ⟨rfl, m1⟩
      refine hK _ _ ?_; clear hK K
      repeat (first | (refine reg_anyT (by rfl) (fun K hK => ?_); go_simp; refine hK _ _ ?_; clear hK K) | (refine reg_read (by rfl) (fun K hK => ?_); go_simp; refine hK _ _ ?_; clear hK K))
      refine reg_nil (fun nd => ?_)
      have HI1 := Lib.hid (HI.out.new (m1.undrew.drewN nd))
      have M1 := Lib.hid (m1.undrew.drewN nd)
      clear m1 a1 a2 a3 a4 a5 a6 a7 HI HP
      generalize World.drewN w' nd = w1 at *
      clear w'
      have a1 := HI1.out.b1
      have a5 := HI1.out.b5
      have a7 := HI1.out.sw.at.2.2
      have hA : ∀ rn : Nat, Calls Tryd.prog 24 #[.pointer (some ⟨t, 0, none⟩), .int .i64 p, .int .i64 j, .int .i64 now] (w1.drewN rn) fun e w' => e = .returned (.int .i64 0) ∧ Fl.TB w' t tM mo ea pa (putL T (j : Int) ⟨p, now⟩) ∧ Mod (· = tM) (w1.drewN rn) w' := fun rn => by
        have := Fl.flAsk p j now t tM mo ea pa T (w1.drewN rn) HJI.out (HI1.out.sw.tb.drewN rn) (by have := HLN.out; omega)
        rw [← HE.out, HKK.out] at this
        exact this
      have HA := Lib.hid hA
      clear hA
      go_wp2_with fail
      refine wp_region2 [] [] (by kernel_rfl) (by kernel_rfl) ?_
      repeat (first | (refine reg_anyT (by rfl) (fun K hK => ?_); go_simp; refine hK _ _ ?_; clear hK K) | (refine reg_read (by rfl) (fun K hK => ?_); go_simp; refine hK _ _ ?_; clear hK K))
      refine reg_eff (by rfl) (fun rn K hK => ?_); go_simp
      refine (HA.out rn).mono ?_; rintro e w' ⟨rfl, h2, m2⟩
      refine hK _ _ ?_; clear hK K
      repeat (first | (refine reg_anyT (by rfl) (fun K hK => ?_); go_simp; refine hK _ _ ?_; clear hK K) | (refine reg_read (by rfl) (fun K hK => ?_); go_simp; refine hK _ _ ?_; clear hK K))
      refine reg_nil (fun nd2 => ?_)
      have HT2 := Lib.hid (h2.drewN nd2)
      have M2 := Lib.hid (m2.undrew.drewN nd2)
      clear h2 m2 a1 a5 a7 HA
      generalize World.drewN w' nd2 = w2 at *
      clear w'
      obtain ⟨v, hv, ho⟩ := HI1.out.b4
      dsimp only at ho
      obtain ⟨a0, cap, rfl, _, _, _⟩ := ho.els
      have HV := Lib.hid hv
      obtain ⟨⟨n1, n2, n3⟩, ⟨n4, n5, n6⟩, ⟨n7, n8, n9⟩, ⟨n10, n11, n12⟩⟩ := HK.out.n3
      have HLT := Lib.hid HK.out.lt
      have a2 := M2.out.cell HI1.out.b2 n4
      have HA4 := Lib.hid (show Blk w2 cl _ _ from hv.mod M2.out (fun e => HK.out.n1.1 (.inr (.inr (.inr e)))))
      have HA5 := Lib.hid (M2.out.cell HI1.out.b5 n10)
      have htM : tM < base := (HLT.out tM (.inl (.inr (.inr (.inr rfl))))).2
      have HO2 := Lib.hid (owns_modG ho M2.out (fun i hi e => by omega))
      have HS2 := Lib.hid (HI1.out.set.mod M2.out HK.out.n1.2.2 (fun e => HK.out.n1.2.1 (.inr (.inr (.inr e)))))
      dsimp only at HS2
      clear ho hv htM n1 n2 n3 n4 n5 n6 n7 n8 n9 n10
      go_wp2_with fail
      refine (bitsPut z zg n (outF n f T) j true w2 HS2.out HJN.out).mono ?_; rintro e w3 ⟨rfl, h3, m3⟩
      have HS3 := Lib.hid h3
      have M3 := Lib.hid m3
      have a5 := m3.cell HA5.out n11
      have hb4 := HA4.out.mod m3 (fun e => HK.out.n2.2 e.symm)
      have a4 : w3.cell? ⟨cl, 0, none⟩ = some (.slice a0 l.length cap) := hb4.cell 0
      have HB4 := Lib.hid (show Blk w3 cl _ _ from hb4)
      have HO3 := Lib.hid (owns_modG HO2.out m3 (fun i hi e => by have := (HLT.out zg (.inr (.inr (.inl rfl)))).2; omega))
      have HCB := Lib.hid ((HLT.out cl (.inr (.inr (.inr (.inr (.inr (.inr (.inl rfl)))))))).2)
      have HBB : Hid (base ≤ w3.heap.size) := by have := HI1.out.bb; have := M2.out.size; have := m3.size; show base ≤ _; omega
      clear h3 m3 hb4 a2 n11 n12 HS2 HO2 HA4 HA5
      go_wp2_with (at_builtin; refine app1 (base := base) rfl (.tmp 37) (.tmp 42) 33 Fl.TRq 3 rfl Tryd.underlying33 Fl.infoRq rfl (by decide) _ _ _ _ 1 [.int .i64 p, .int .i64 j, .int .i64 now] (by have := HBB.out; simp; omega) (HO3.out.alloc _) rfl rfl (sl_new w3 _ _) (by simp [Value.oneCell']) (by decide) (by omega) ?_; intro v' w4 g1 g2 g3
                   obtain ⟨a4', cap4, rfl, _, _, _⟩ := g1.els
                   have G1 := Lib.hid g1
                   have G2 := Lib.hid ((((Mod.refl _ w3).alloc (.cells #[.int .i64 p, .int .i64 j, .int .i64 now] Fl.TRq)).trans g2).mono (S' := fun i => base ≤ i) fun i _ e => own_ge HO3.out i e)
                   have hb4 : Blk w4 cl _ _ := HB4.out.mod G2.out (by have := HCB.out; omega)
                   have f4 : w4.frozen? ⟨cl, 0, none⟩ = false := hb4.frozen 0
                   have c4 : w4.cell? ⟨cl, 0, none⟩ = some (.slice a0 l.length cap) := hb4.cell 0
                   clear hb4
                   clear g1 g2 g3)
      rw [← rqL_put l (j : Int) ⟨p, now⟩] at G1
      have HM := Lib.hid (AskI.more HK.out HI1.out HJN.out HE.out.symm HT2.out M2.out HS3.out M3.out HV.out G2.out G1.out rfl)
      go_ret
      exact ⟨rfl, HM.out.1, (M1.out.mono fun _ _ e => e.elim).trans HM.out.2⟩
    · have hRs : R = none := by rw [HRK.out]; unfold askAt; rw [if_neg (by omega)]; dsimp only; rw [← hE, if_neg he]
      subst hRs
      have hK : Fl.askK mo ea T p j now = T := by unfold Fl.askK; rw [← hE, if_neg he]
      have HKK := Lib.hid hK
      have he' : (E == 0) = false := by simpa using he
      clear hK hE he
      go_enter Tryd.func22, Tryd.ntmps22
      go_wp2_with fail
      refine wp_region2 [] [] (by kernel_rfl) (by kernel_rfl) ?_
      repeat (first | (refine reg_anyT (by rfl) (fun K hK => ?_); go_simp; refine hK _ _ ?_; clear hK K) | (refine reg_read (by rfl) (fun K hK => ?_); go_simp; refine hK _ _ ?_; clear hK K))
      refine reg_eff (by rfl) (fun rn K hK => ?_); go_simp
      refine (HP.out rn).mono ?_; rintro e w' ⟨rfl, m1⟩
      refine hK _ _ ?_; clear hK K
      repeat (first | (refine reg_anyT (by rfl) (fun K hK => ?_); go_simp; refine hK _ _ ?_; clear hK K) | (refine reg_read (by rfl) (fun K hK => ?_); go_simp; refine hK _ _ ?_; clear hK K))
      refine reg_nil (fun nd => ?_)
      have HI1 := Lib.hid (HI.out.new (m1.undrew.drewN nd))
      have M1 := Lib.hid (m1.undrew.drewN nd)
      clear m1 a1 a2 a3 a4 a5 a6 a7 HI HP
      generalize World.drewN w' nd = w1 at *
      clear w'
      have a1 := HI1.out.b1
      have a5 := HI1.out.b5
      have a7 := HI1.out.sw.at.2.2
      have hA : ∀ rn : Nat, Calls Tryd.prog 24 #[.pointer (some ⟨t, 0, none⟩), .int .i64 p, .int .i64 j, .int .i64 now] (w1.drewN rn) fun e w' => e = .returned (.int .i64 E) ∧ Fl.TB w' t tM mo ea pa T ∧ Mod (· = tM) (w1.drewN rn) w' := fun rn => by
        have := Fl.flAsk p j now t tM mo ea pa T (w1.drewN rn) HJI.out (HI1.out.sw.tb.drewN rn) (by have := HLN.out; omega)
        rw [← HE.out, HKK.out] at this
        exact this
      have HA := Lib.hid hA
      clear hA
      go_wp2_with fail
      refine wp_region2 [] [] (by kernel_rfl) (by kernel_rfl) ?_
      repeat (first | (refine reg_anyT (by rfl) (fun K hK => ?_); go_simp; refine hK _ _ ?_; clear hK K) | (refine reg_read (by rfl) (fun K hK => ?_); go_simp; refine hK _ _ ?_; clear hK K))
      refine reg_eff (by rfl) (fun rn K hK => ?_); go_simp
      refine (HA.out rn).mono ?_; rintro e w' ⟨rfl, h2, m2⟩
      refine hK _ _ ?_; clear hK K
      repeat (first | (refine reg_anyT (by rfl) (fun K hK => ?_); go_simp; refine hK _ _ ?_; clear hK K) | (refine reg_read (by rfl) (fun K hK => ?_); go_simp; refine hK _ _ ?_; clear hK K))
      refine reg_nil (fun nd2 => ?_)
      have HT2 := Lib.hid (h2.drewN nd2)
      have M2 := Lib.hid (m2.undrew.drewN nd2)
      clear h2 m2 a1 a5 a7 HA
      generalize World.drewN w' nd2 = w2 at *
      clear w'
      have HM := Lib.hid (AskI.kept HK.out HI1.out HT2.out M2.out)
      go_wp2_with fail
      go_ret
      exact ⟨rfl, HM.out.1, (M1.out.mono fun _ _ e => e.elim).trans HM.out.2⟩
end Go.Proofs.YtjmfhcliggjdgaaDoor

/- Package conn: Next; of TrailingZeros64's table: as it is laid. -/
namespace Go.Proofs.YtjmfhcliggjdgaaDoor
open Go Go.RowKit

/-- A peer is asked for as much as there is. -/
def runS (n : Nat) (mo ea : Int) (L : LB) (f : Nat → Bool) (now seed p : Int) : Nat → LT × LT → LT × LT
  | 0, st => st
  | m + 1, st => match askS n mo ea L f now seed p st with
    | none => st
    | some st' => runS n mo ea L f now seed p m st'
/-- Every peer that may be asked. -/
def nextS (n : Nat) (mo ea : Int) (L : LB) (f : Nat → Bool) (now seed : Int) (may : List Int) : List Int → LT × LT → LT × LT
  | [], st => st
  | p :: ps, st => nextS n mo ea L f now seed may ps (if p ∈ may then runS n mo ea L f now seed p 300 st else st)
/-- What Next does: the table, the requests, the error. -/
def nextA (n : Nat) (mo ea : Int) (L : LB) (now : Int) (x : Option (Nat × (Nat → Bool))) (may : List Int) (seed : Int) (T : LT) : LT × LT × Int :=
  if rightA n now x = true then ((nextS n mo ea L (x.getD (0, fun _ => false)).2 now seed may (keysL L) (T, [])).1, (nextS n mo ea L (x.getD (0, fun _ => false)).2 now seed may (keysL L) (T, [])).2, 0) else (T, [], 1)
theorem nextA_some {n : Nat} {mo ea : Int} {L : LB} {now : Int} {f : Nat → Bool} {may : List Int} {seed : Int} {T : LT} (hq : 0 ≤ now ∧ now ≤ 1099511627776) : nextA n mo ea L now (some (n, f)) may seed T = ((nextS n mo ea L f now seed may (keysL L) (T, [])).1, (nextS n mo ea L f now seed may (keysL L) (T, [])).2, 0) := by
  unfold nextA
  rw [if_pos (by unfold rightA; simp [hq])]
  rfl
theorem askS_len {n : Nat} {mo ea : Int} {L : LB} {f : Nat → Bool} {now seed p : Int} {st st' : LT × LT} (h : askS n mo ea L f now seed p st = some st') : st'.2.length = st.2.length + 1 := by
  unfold askS askAt at h
  split at h
  · cases h
  · split at h
    · cases h; simp
    · cases h
theorem runS_none {n : Nat} {mo ea : Int} {L : LB} {f : Nat → Bool} {now seed p : Int} {m : Nat} {st : LT × LT} (h : askS n mo ea L f now seed p st = none) : runS n mo ea L f now seed p (m + 1) st = st := by
  show (match askS n mo ea L f now seed p st with | none => st | some st' => runS n mo ea L f now seed p m st') = st
  rw [h]
theorem runS_some {n : Nat} {mo ea : Int} {L : LB} {f : Nat → Bool} {now seed p : Int} {m : Nat} {st st' : LT × LT} (h : askS n mo ea L f now seed p st = some st') : runS n mo ea L f now seed p (m + 1) st = runS n mo ea L f now seed p m st' := by
  show (match askS n mo ea L f now seed p st with | none => st | some st' => runS n mo ea L f now seed p m st') = _
  rw [h]
/-- How long the list is that lies in a box. -/
def lenAt (w : World) (b : Nat) : Nat := match w.cell? ⟨b, 0, none⟩ with
  | some (.slice _ n _) => n
  | _ => 0
theorem Sl.keepM {S : Nat → Prop} {w w' : World} {v : Value} {n : Nat} {xs : List Value} (h : Sl w v 1 n xs) (hm : Mod S w w') (hS : ∀ x m c, v = .slice (some x) m c → 0 < n → ¬ S x.block) : Sl w' v 1 n xs := by
  rcases h with h | ⟨x, c, rfl, hl, h⟩
  · exact .inl h
  · refine .inr ⟨x, c, rfl, hl, fun j u hj => hm.cell (h j u hj) ?_⟩
    rw [Addr.add_block]
    exact hS x _ c rfl (by have := (List.getElem?_eq_some_iff.1 hj).1; omega)
theorem AskI.len {w : World} {base cs cn cd cl ct z zg s b M g t tM n : Nat} {pm mo ea pa now seed : Int} {ks : List (Int × Ow)} {f : Nat → Bool} {st : LT × LT} (h : AskI w base cs cn cd cl ct z zg s b M g t tM n pm mo ea pa now seed ks f st) : lenAt w cl = st.2.length := by
  obtain ⟨v, h1, h2⟩ := h.b4
  obtain ⟨a, cap, rfl, _⟩ := h2.els
  have hc : w.cell? ⟨cl, 0, none⟩ = some (.slice a st.2.length cap) := h1.cell 0
  unfold lenAt
  rw [hc]
set_option maxRecDepth 100000 in
set_option maxHeartbeats 4000000 in
theorem connNext (now seed : Int) (so : Option Nat) (x : Option (Nat × (Nat → Bool))) (mv : Value) (ml : Nat) (may : List Int) (s b M g t tM n : Nat) (pm mo ea pa : Int) (ks : List (Int × Ow)) (L : LB) (T : LT) (w : World) (h : SW w s b M g t tM n pm mo ea pa ks T) (hT : TabW w) {lo : Nat} (hs : SoB lo w so x) (hm : Sl w mv 1 ml (intL may)) (hml : ml ≤ 9007199254740992) (hmv : ∀ x m c, mv = .slice (some x) m c → 0 < ml → x.block ≠ tM) (he : mapV Ow.f ks = L) (hok : Fl.Okk mo ea T) (hob : OkB pm L) (hmo : mo ≤ 256) (hpm : pm ≤ 64) (hkn : ∀ q ∈ T, q.1 < (n : Int)) (hn : n ≤ 1024) (hlow : ∀ i, SWb s b M g t tM ks i → gTab < i) :
    Calls Tryd.prog 8 #[.pointer (some ⟨s, 0, none⟩), .int .i64 now, .pointer (so.map fun s => ⟨s, 0, none⟩), mv, .int .u64 seed] w fun e w' => RqE (nextA n mo ea L now x may seed T).2.1 (nextA n mo ea L now x may seed T).2.2 w e w' ∧ Fl.TB w' t tM mo ea pa (nextA n mo ea L now x may seed T).1 ∧ Mod (· = tM) w w' := by
  have hslt : s < w.heap.size := h.blk.lt
  have hrr := fun w' (m : Mod (fun _ => False) w w') => connRight now so x s n w' (m.cell h.at.1 (fun h => h)) (lo := lo) (by
    rcases hs with ⟨e1, e2⟩ | ⟨y, yg, m', f', e1, e2, hy, l1, l2⟩
    · exact .inl ⟨e1, e2⟩
    · exact .inr ⟨y, yg, m', f', e1, e2, hy.mod m (fun h => h) (fun h => h), l1, l2⟩)
  have HRI := Lib.hid hrr
  clear hrr
  have ma : Mod (fun _ => False) w (((w.alloc (.cells #[.pointer (some ⟨s, 0, none⟩)] 24)).alloc (.cells #[.int .i64 now] 3)).alloc (.cells #[.int .u64 seed] 37)) := (((Mod.refl (fun _ => False) w).alloc _).alloc _).alloc _
  obtain ⟨wa, hwa⟩ : ∃ wa, wa = (((w.alloc (.cells #[.pointer (some ⟨s, 0, none⟩)] 24)).alloc (.cells #[.int .i64 now] 3)).alloc (.cells #[.int .u64 seed] 37)) := ⟨_, rfl⟩
  rw [← hwa] at ma
  have bs : wa.cell? ⟨w.heap.size, 0, none⟩ = some (.pointer (some ⟨s, 0, none⟩)) := by rw [hwa]; exact (((Blk.new w _ _).alloc _).alloc _).cell 0
  have bt : wa.cell? ⟨w.heap.size + 1, 0, none⟩ = some (.int .i64 now) := by
    rw [hwa]
    have := ((Blk.new (w.alloc (.cells #[.pointer (some ⟨s, 0, none⟩)] 24)) #[.int .i64 now] 3).alloc (.cells #[.int .u64 seed] 37)).cell 0
    simpa using this
  have bd : wa.cell? ⟨w.heap.size + 1 + 1, 0, none⟩ = some (.int .u64 seed) := by
    rw [hwa]
    have := (Blk.new ((w.alloc (.cells #[.pointer (some ⟨s, 0, none⟩)] 24)).alloc (.cells #[.int .i64 now] 3)) #[.int .u64 seed] 37).cell 0
    simpa using this
  have za : wa.heap.size = w.heap.size + 3 := by rw [hwa]; simp
  by_cases hr : rightA n now x = true
  · obtain ⟨hq, f, rfl⟩ := rightA_some hr
    rw [hr] at HRI
    rw [nextA_some hq]
    rcases hs with ⟨_, e⟩ | ⟨y, yg, m, f', rfl, e, hy, _, _⟩
    · cases e
    cases e
    have hlen : T.length ≤ 256 := by have := hok.len; omega
    have hlk : ks.length ≤ 64 := by have h1 := hob.len; rw [← he, mapV_len] at h1; omega
    have HY := Lib.hid (hy.mod ma (fun h => h) (fun h => h))
    have HRIa := Lib.hid (HRI.out wa ma)
    have HSWa := Lib.hid (h.new ma)
    have HTa := Lib.hid (hT.mod ma fun h => h)
    have HMV : Hid (∀ x m c, mv = .slice (some x) m c → 0 < ml → x.block ≠ tM ∧ x.block < w.heap.size) := fun x m c e h0 => by
      refine ⟨hmv x m c e h0, ?_⟩
      obtain ⟨hml', a, c', hv, hc⟩ := sl_ints hm
      rw [hv] at e
      cases e
      obtain ⟨x', e', hx⟩ := hc 0 _ (List.getElem?_eq_getElem (by omega))
      cases e'
      have := World.block_lt_of_cell? w _ hx
      rwa [Addr.add_block] at this
    have HMAY := Lib.hid (hm.mod ma (fun _ _ _ _ h => h))
    have HMA := Lib.hid ma
    have HOK := Lib.hid hok
    have HKN := Lib.hid hkn
    have HKK : Hid (∀ q ∈ T, 0 ≤ q.1 ∧ q.1 < (n : Int)) := fun q hq => ⟨(hok.rng q hq).1, hkn q hq⟩
    have HKI : Hid (∀ p ∈ keysL L, I64 p) := fun p hp => by
      unfold keysL at hp
      obtain ⟨q, hq, rfl⟩ := List.mem_map.1 hp
      exact hob.i64 q hq
    have HLOW := Lib.hid hlow
    have HLT : Hid (∀ i, SWb s b M g t tM ks i → i < w.heap.size) := fun i hi => h.lt hi
    have HSM : Hid (mo ≤ 256 ∧ n ≤ 1024 ∧ ks.length ≤ 64 ∧ gTab < w.heap.size) := ⟨hmo, hn, hlk, hT.lt⟩
    have HE := Lib.hid he
    have HKL : Hid ((keysL L).length ≤ 64) := by show (keysL L).length ≤ 64; unfold keysL; rw [List.length_map]; have := hob.len; omega
    obtain ⟨R, hR⟩ : ∃ R, R = nextS n mo ea L f now seed may (keysL L) (T, []) := ⟨_, rfl⟩
    rw [← hR]
    have HR := Lib.hid hR
    have HZA := Lib.hid za
    clear h hT hok hkn hy hr hR hn hmo hpm hob hlow hlk he hm ma HRI hslt hq za hmv
    dsimp only
    go_enter Tryd.func8, Tryd.ntmps8
    go_wp2_with fail
    go_step3
    go_upto_region 1 with fail
    rw [← hwa]
    clear hwa
    go_wp2_with fail
    refine HRIa.out.mono ?_; rintro e w1 ⟨rfl, m1⟩
    have bs := m1.cell bs (fun h => h); have bt := m1.cell bt (fun h => h); have bd := m1.cell bd (fun h => h)
    have HO := Lib.hid (connOut y yg f s b M g t tM n pm mo ea pa ks T w1 (HSWa.out.new m1) (HY.out.mod m1 (fun h => h) (fun h => h)) hlen HOK.out.i64 HKK.out)
    have HM1 := Lib.hid (HMA.out.trans m1)
    have HZ1 := Lib.hid m1.size
    have HSW1 := Lib.hid (HSWa.out.new m1)
    have HT1 := Lib.hid (HTa.out.mod m1 fun h => h)
    have HMAY1 := Lib.hid (HMAY.out.mod m1 (fun _ _ _ _ h => h))
    clear m1 HSWa HY HTa HMAY HMA HRIa
    go_wp2_with fail
    refine HO.out.mono ?_; rintro e w2 ⟨z, zg, rfl, h2, m2, l1, l2⟩
    have m3 : Mod (fun _ => False) w2 ((w2.alloc (.cells #[.pointer (some ⟨z, 0, none⟩)] 28)).alloc (.cells #[.slice none 0 0] 33)) := ((Mod.refl (fun _ => False) w2).alloc _).alloc _
    obtain ⟨w3, hw3⟩ : ∃ w3, w3 = ((w2.alloc (.cells #[.pointer (some ⟨z, 0, none⟩)] 28)).alloc (.cells #[.slice none 0 0] 33)) := ⟨_, rfl⟩
    rw [← hw3] at m3
    have m23 := m2.trans m3
    have bn : w3.cell? ⟨w2.heap.size, 0, none⟩ = some (.pointer (some ⟨z, 0, none⟩)) := by rw [hw3]; exact ((Blk.new w2 _ _).alloc _).cell 0
    have HBL : Hid (Blk w3 (w2.heap.size + 1) #[.slice none 0 0] 33) := by
      show Blk _ _ _ _
      rw [hw3]
      have := Blk.new (w2.alloc (.cells #[.pointer (some ⟨z, 0, none⟩)] 28)) #[.slice none 0 0] 33
      simpa using this
    have HZ3 : Hid (w3.heap.size = w2.heap.size + 2) := by show _ = _; rw [hw3]; simp
    have bs := m2.cell bs (fun h => h)
    have HBS := Lib.hid (m3.cell bs (fun h => h)); have HBT := Lib.hid (m23.cell bt (fun h => h)); have HBD := Lib.hid (m23.cell bd (fun h => h))
    have HBN := Lib.hid bn
    have HSW3 := Lib.hid (HSW1.out.new m23)
    have HS3 := Lib.hid (h2.mod m3 (fun h => h) (fun h => h))
    have HT3 := Lib.hid (HT1.out.mod m23 fun h => h)
    have HMAY3 := Lib.hid (HMAY1.out.mod m23 (fun _ _ _ _ h => h))
    have HM3 := Lib.hid (HM1.out.trans m23)
    have HLZ : Hid ((w1.heap.size ≤ z ∧ z < w2.heap.size) ∧ w1.heap.size ≤ zg ∧ zg < w2.heap.size) := ⟨⟨l1, h2.lt.1⟩, l2, h2.lt.2⟩
    have hpe := rarePeers b M g n pm (cO ks) ks w3 HSW3.out.bd (by have := HSM.out; omega)
    rw [← keys_mapV Ow.f ks, HE.out] at hpe
    have HPE := Lib.hid hpe
    have c1 := HSW3.out.at.2.1
    have bs3 := HBS.out
    clear h2 m2 m23 l1 l2 bt bd bn hpe HSW1 HT1 HMAY1 HM1 HO
    have c1' := (HSW3.out.at.2.1)
    clear c1'
    go_upto_region 6 with fail
    rw [← hw3]
    clear hw3
    go_wp2_with fail
    go_step3
    go_wp2_with fail
    refine HPE.out.mono ?_; rintro e w4 ⟨v, rfl, o4, m4⟩
    obtain ⟨hkl, a, c, rfl, hcells⟩ := sl_ints o4.sl
    have HCE := Lib.hid hcells
    have HXB : Hid (∀ X : Addr, a = some X → w3.heap.size ≤ X.block ∧ X.block < w4.heap.size) := fun X e => by subst e; exact o4.blk X _ _ rfl
    obtain ⟨cd, hcd⟩ : ∃ x, x = w.heap.size + 1 + 1 := ⟨_, rfl⟩
    obtain ⟨ct, hct⟩ : ∃ x, x = w.heap.size + 1 := ⟨_, rfl⟩
    obtain ⟨cs, hcs⟩ : ∃ x, x = w.heap.size := ⟨_, rfl⟩
    obtain ⟨cl, hcl⟩ : ∃ x, x = w2.heap.size + 1 := ⟨_, rfl⟩
    obtain ⟨cn, hcn⟩ : ∃ x, x = w2.heap.size := ⟨_, rfl⟩
    rw [← hcd] at HBD; rw [← hct] at HBT; rw [← hcs] at HBS; rw [← hcl] at HBL; rw [← hcn] at HBN
    have HK : Hid (AskK w4.heap.size cs cn cd cl ct z zg s b M g t tM n mo ks L) := by
      have k1 := HZA.out; have k2 := HZ1.out; have k3 := HZ3.out; have k4 := m4.size; have k5 := HLZ.out; have k6 := HSM.out; have k7 := HM3.out.size
      have kt := HLT.out tM (.inr (.inr (.inr rfl)))
      refine ⟨fun i hi => ?_, ⟨fun e => by have := HLT.out _ e; omega, fun e => by have := HLT.out _ e; omega, by omega⟩, ⟨by omega, by omega⟩, ⟨⟨by omega, by omega, by omega⟩, ⟨by omega, by omega, by omega⟩, ⟨by omega, by omega, by omega⟩, ⟨by omega, by omega, by omega⟩⟩, HE.out, ⟨k6.1, k6.2.1⟩⟩
      rcases hi with e | e | e | e | e | e | e | e
      · have h1 := HLT.out i e
        have h2 := HLOW.out i e
        omega
      all_goals omega
    have HAI : Hid (AskI w4 w4.heap.size cs cn cd cl ct z zg s b M g t tM n pm mo ea pa now seed ks f (T, [])) :=
      ⟨HSW3.out.new m4, HS3.out.mod m4 (fun h => h) (fun h => h), m4.cell HBS.out (fun h => h), m4.cell HBN.out (fun h => h), m4.cell HBD.out (fun h => h), ⟨_, HBL.out.mod m4 (fun h => h), World.ownsRow_nil _ _ _ _⟩, m4.cell HBT.out (fun h => h), HOK.out, HKN.out, Nat.zero_le _, HT3.out.mod m4 (fun h => h), Nat.le_refl _⟩
    have HMAY4 := Lib.hid (HMAY3.out.mod m4 (fun _ _ _ _ h => h))
    have HM4 := Lib.hid (HM3.out.trans m4)
    have HXC : Hid (∀ X : Addr, a = some X → X.block ≠ tM ∧ X.block ≠ zg ∧ X.block ≠ cl ∧ X.block < w4.heap.size) := fun X e => by
      have h1 := HXB.out X e
      have k3 := HZ3.out; have k5 := HLZ.out; have kt := HLT.out tM (.inr (.inr (.inr rfl))); have k7 := HM3.out.size
      omega
    have HKB : Hid ((w.heap.size ≤ zg ∧ w.heap.size ≤ cl) ∧ w.heap.size ≤ w4.heap.size) := by
      have k1 := HZA.out; have k2 := HZ1.out; have k3 := HZ3.out; have k5 := HLZ.out; have k7 := HM4.out.size
      show (_ ∧ _) ∧ _
      omega
    rw [← hcd, ← hct, ← hcs, ← hcl, ← hcn]
    obtain ⟨KL, hKL⟩ : ∃ x, x = keysL L := ⟨_, rfl⟩
    rw [← hKL] at HR HCE HKI HKL hkl ⊢
    clear hcd hct hcs hcl hcn hkl o4 hcells m4 HBS HBN HBD HBL HBT HSW3 HS3 HT3 HMAY3 HM3 HXB HLZ HZ1 HZ3 HZA HLT HLOW HSM HPE c1 bs3 bs m3 hKL HKK HKN HOK hlen
    go_wp2_with fail
    go_loopw [32] (fun i wr => ∃ (k : Nat) (st : LT × LT), i = .int .i64 k ∧ k ≤ KL.length ∧ Hid (AskI wr w4.heap.size cs cn cd cl ct z zg s b M g t tM n pm mo ea pa now seed ks f st) ∧ Hid (nextS n mo ea L f now seed may (KL.drop k) st = R) ∧ Hid (Mod (fun i => i = tM ∨ i = zg ∨ i = cl ∨ w4.heap.size ≤ i) w4 wr)) (fun i _ => KL.length - (intOf i).toNat)
    case atStart => exact ⟨0, (T, []), rfl, Nat.zero_le _, HAI.out, by show _ = _; rw [HR.out]; rfl, Mod.refl _ _⟩
    case round =>
      obtain ⟨k, st1, rfl, hk, hI, hRR, hM⟩ := hrel
      by_cases hlt : (k : Int) < KL.length
      · have hlt2 : k < KL.length := by omega
        obtain ⟨p, hp⟩ : ∃ p, KL[k]? = some p := ⟨_, List.getElem?_eq_getElem hlt2⟩
        obtain ⟨X, rfl, px⟩ := HCE.out k p hp
        have hX := HXC.out X rfl
        have px := hM.out.cell px (by rw [Addr.add_block]; omega)
        have HPI := Lib.hid (HKI.out p (List.mem_of_getElem? hp))
        have HST : Hid (nextS n mo ea L f now seed may (KL.drop (k + 1)) (if p ∈ may then runS n mo ea L f now seed p 300 st1 else st1) = R) := by
          have := hRR.out
          rw [List.drop_eq_getElem_cons hlt2, (List.getElem?_eq_some_iff.1 hp).2] at this
          exact this
        have HK2 : Hid (k < KL.length ∧ KL.length ≤ 64) := ⟨hlt2, HKL.out⟩
        obtain ⟨wb, hwb⟩ : ∃ wb : World, wb = wr := ⟨_, rfl⟩
        rw [← hwb] at hI hM px ⊢
        clear hwb hp hX hRR
        go_wp2_with fail
        go_loopw [] (fun wr => ∃ (m : Nat) (st2 : LT × LT), Hid (AskI wr w4.heap.size cs cn cd cl ct z zg s b M g t tM n pm mo ea pa now seed ks f st2) ∧ Hid (m + st2.2.length = 300 + st1.2.length) ∧ Hid ((if p ∈ may then runS n mo ea L f now seed p m st2 else st2) = (if p ∈ may then runS n mo ea L f now seed p 300 st1 else st1)) ∧ Hid (Mod (fun i => i = tM ∨ i = zg ∨ i = cl ∨ w4.heap.size ≤ i) w4 wr)) (fun wr => 600 - lenAt wr cl)
        case atStart => exact ⟨300, st1, hI.out, rfl, rfl, hM.out⟩
        case round =>
          obtain ⟨m, st2, hI2, hm2, hr2, hM2⟩ := hrel
          have hbm : st2.2.length ≤ 256 := by have h1 := hI2.out.ll; have h2 := hI2.out.ok.len; have h3 := HK.out.sm; omega
          have HHI := Lib.hid (hasInt mv ml may p wr (HMAY4.out.keepM hM2.out fun x m c e h0 => by
            have h1 := HMV.out x m c e h0
            have h2 := HKB.out
            omega) hml)
          by_cases hpm : p ∈ may
          · rw [decide_eq_true hpm] at HHI
            rw [if_pos hpm, if_pos hpm] at hr2
            rw [if_pos hpm] at HST
            obtain ⟨m', rfl⟩ : ∃ m', m = m' + 1 := ⟨m - 1, by have := hm2.out; omega⟩
            obtain ⟨A, hA⟩ : ∃ A, A = askS n mo ea L f now seed p st2 := ⟨_, rfl⟩
            have HA := connAsk p w4.heap.size cs cn cd cl ct z zg s b M g t tM n pm mo ea pa now seed ks L f st2 wr HK.out hI2.out HPI.out
            have hrs1 : A = none → runS n mo ea L f now seed p (m' + 1) st2 = st2 := fun e => runS_none (hA.symm.trans e)
            have hrs2 : ∀ st', A = some st' → runS n mo ea L f now seed p (m' + 1) st2 = runS n mo ea L f now seed p m' st' := fun st' e => runS_some (hA.symm.trans e)
            rw [← hA] at HA
            have HLA : Hid (∀ st', A = some st' → st'.2.length = st2.2.length + 1) := fun st' e => askS_len (hA.symm.trans e)
            have HLN2 := Lib.hid hI2.out.len
            have HAA := Lib.hid HA
            clear HA hA
            cases A with
            | none =>
              have HR3 := Lib.hid ((hrs1 rfl).symm.trans hr2.out)
              clear hrs1 hrs2 hr2 hm2 hI2
              go_wp2_with fail
              refine HHI.out.mono ?_; rintro e w5 ⟨rfl, rfl⟩
              go_wp2_with fail
              refine HAA.out.mono ?_; rintro e w5 ⟨rfl, hI5, hM5⟩
              have HI5 := Lib.hid hI5
              have HM5 := Lib.hid (hM2.out.trans2 hM5 fun i e => .inl e)
              clear hI5 hM5
              go_wp2_with fail
              go_roundw
              case rel =>
                have hk2 := HK2.out
                have hkw : wrap64 ((k : Int) + 1) = ((k + 1 : Nat) : Int) := by unfold wrap64; omega
                exact ⟨k + 1, st2, by rw [hkw], by omega, HI5.out, by show _ = _; rw [HR3.out]; exact HST.out, HM5.out⟩
              case measure =>
                have hk2 := HK2.out
                have hkw : wrap64 ((k : Int) + 1) = ((k + 1 : Nat) : Int) := by unfold wrap64; omega
                rw [hkw]
                simp [intOf]
                omega
            | some st3 =>
              have HR3 := Lib.hid ((hrs2 _ rfl).symm.trans hr2.out)
              have HL3 := Lib.hid (HLA.out _ rfl)
              have HMM : Hid (m' + st3.2.length = 300 + st1.2.length) := by have h1 := hm2.out; have h2 := HL3.out; show _ = _; omega
              clear hrs1 hrs2 hr2 hm2 hI2 HLA
              go_wp2_with fail
              refine HHI.out.mono ?_; rintro e w5 ⟨rfl, rfl⟩
              go_wp2_with fail
              refine HAA.out.mono ?_; rintro e w5 ⟨rfl, hI5, hM5⟩
              have HI5 := Lib.hid hI5
              have HM5 := Lib.hid (hM2.out.trans2 hM5 fun i e => .inl e)
              have HLN3 := Lib.hid hI5.len
              clear hI5 hM5
              go_wp2_with fail
              go_roundw
              case rel => exact ⟨m', st3, HI5.out, HMM.out, by show _ = _; rw [if_pos hpm, if_pos hpm]; exact HR3.out, HM5.out⟩
              case measure =>
                have h1 := HLN2.out
                have h2 : lenAt w5 cl = st3.2.length := HLN3.out
                have h3 := HL3.out
                show 600 - lenAt w5 cl < 600 - lenAt wr cl
                omega
          · rw [decide_eq_false hpm] at HHI
            rw [if_neg hpm, if_neg hpm] at hr2
            rw [if_neg hpm] at HST
            have HR3 := Lib.hid hr2.out
            clear hr2 hm2
            go_wp2_with fail
            refine HHI.out.mono ?_; rintro e w5 ⟨rfl, rfl⟩
            go_wp2_with fail
            go_roundw
            case rel =>
                have hk2 := HK2.out
                have hkw : wrap64 ((k : Int) + 1) = ((k + 1 : Nat) : Int) := by unfold wrap64; omega
                exact ⟨k + 1, st2, by rw [hkw], by omega, hI2.out, by show _ = _; rw [HR3.out]; exact HST.out, hM2.out⟩
            case measure =>
                have hk2 := HK2.out
                have hkw : wrap64 ((k : Int) + 1) = ((k + 1 : Nat) : Int) := by unfold wrap64; omega
                rw [hkw]
                simp [intOf]
                omega
      · have hkd : KL.drop k = [] := List.drop_eq_nil_of_le (by omega)
        have hR2 := hRR.out
        rw [hkd] at hR2
        have hR3 : st1 = R := hR2
        subst hR3
        obtain ⟨v, hv, ho⟩ := hI.out.b4
        obtain ⟨a4, cap4, rfl, _, _, _⟩ := ho.els
        have c4 : wr.cell? ⟨cl, 0, none⟩ = some (.slice a4 st1.2.length cap4) := hv.cell 0
        have HO4 := Lib.hid ho
        clear hkd hR2 hv ho hRR
        go_wp2_with fail
        go_ret2
        refine ⟨⟨_, rfl, HO4.out.mono HKB.out.2⟩, hI.out.sw.tb, (HM4.out.mono (S' := (· = tM)) fun _ _ e => e.elim).trans2 hM.out fun i e => ?_⟩
        have h1 := HKB.out
        omega
  · have e1 : nextA n mo ea L now x may seed T = (T, [], 1) := by unfold nextA; rw [if_neg hr]
    rw [e1]
    have hr' : rightA n now x = false := by simpa using hr
    rw [hr'] at HRI
    have HRIa := Lib.hid (HRI.out wa ma)
    have HTB := Lib.hid (h.tb.new ma)
    have HMA := Lib.hid ma
    clear h hT hs hok hkn hr hr' e1 hn hmo hob hpm hlow he hm hmv bd za ma HRI hslt
    go_enter Tryd.func8, Tryd.ntmps8
    go_wp2_with fail
    go_step3
    go_upto_region 1 with fail
    rw [← hwa]
    clear hwa
    go_wp2_with fail
    refine HRIa.out.mono ?_; rintro e w1 ⟨rfl, m1⟩
    have HTB1 := Lib.hid (HTB.out.new m1)
    have HM1 := Lib.hid (HMA.out.trans m1)
    clear m1
    go_wp2_with fail
    rw [Exit.noGoto_ret]
    go_ret2
    exact ⟨⟨_, rfl, World.ownsRow_nil _ _ _ _⟩, HTB1.out, HM1.out.mono fun _ _ e => e.elim⟩
end Go.Proofs.YtjmfhcliggjdgaaDoor
