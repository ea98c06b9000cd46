/- The reference of rarest: Set; no condition. -/
import Derived.Test.YtegmgflplhpacaaDoorRbC
namespace Go.Proofs.YtegmgflplhpacaaDoor
open Go Go.RowKit

theorem refId (n : Int) (w : World) : Calls Tryd.prog 55 #[.int .i64 n] w fun e w' => e = .returned (.bool (decide (1 ≤ n) && decide (n ≤ 65536))) ∧ w = w' := by
  by_cases h1 : 1 ≤ n
  · go_enter Tryd.func55, Tryd.ntmps55
    go_wp2_with fail
    go_ret
    exact ⟨by simp [h1], rfl⟩
  · have h2 : decide (1 ≤ n) = false := by simpa using h1
    go_enter Tryd.func55, Tryd.ntmps55
    go_wp2_with fail
    go_ret
    exact ⟨by simp, rfl⟩
theorem in_yes {n lo hi : Int} (h : lo ≤ n ∧ n ≤ hi) : (decide (lo ≤ n) && decide (n ≤ hi)) = true := by simp [h.1, h.2]
theorem in_no {n lo hi : Int} (h : ¬ (lo ≤ n ∧ n ≤ hi)) : (decide (lo ≤ n) && decide (n ≤ hi)) = false := by
  rw [Bool.and_eq_false_iff, decide_eq_false_iff_not, decide_eq_false_iff_not]; omega
theorem RD.put {w w2 : World} {b base n : Nat} {most : Int} {ks : List (Int × Rp)} (h : RD w b base n most ks) {id : Int} {g cp : Nat} {f : Nat → Bool} {a : Option Addr} {cap : Nat}
    (h1 : Blk w2 b #[.int .i64 n, .int .i64 most, .slice a (putL ks id (⟨g, cp, f⟩ : Rp)).length cap] TBd) (h2 : w2.ownsRow base THs 2 (.slice a (putL ks id (⟨g, cp, f⟩ : Rp)).length cap) (putL ks id (⟨g, cp, f⟩ : Rp)).length (hvL n (putL ks id ⟨g, cp, f⟩)))
    (hX : ∀ X, a = some X → X.block ≠ g ∧ ∀ q ∈ ks, X.block ≠ q.2.g) (hs : ∀ q ∈ ks, w2.ownsRow base 4 1 (.slice (some ⟨q.2.g, 0, none⟩) n q.2.cap) n (booL n q.2.f)) (ho : w2.ownsRow base 4 1 (.slice (some ⟨g, 0, none⟩) n cp) n (booL n f)) (hg : ∀ q ∈ ks, q.2.g ≠ g) : RD w2 b base n most (putL ks id ⟨g, cp, f⟩) := by
  refine ⟨h.lt, ⟨a, cap, h1, h2, fun q hq X e => ?_⟩, fun q hq => ?_, ?_⟩
  · rcases mem_putO hq with rfl | hq
    · exact (hX X e).1
    · exact (hX X e).2 q hq
  · rcases mem_putO hq with rfl | hq
    · exact ho
    · exact hs q hq
  · unfold putL
    exact pairwise_insS _ (h.two.filter _) (fun q hq => (hg q (List.mem_filter.1 hq).1).symm) (fun q hq => hg q (List.mem_filter.1 hq).1)
theorem hvL_set (n : Nat) (x : Int) (r r' : Rp) : ∀ (l : List (Int × Rp)) (k : Nat), l[k]? = some (x, r) → (hvL n l).set (k * 2 + 1) (.slice (some ⟨r'.g, 0, none⟩) n r'.cap) = hvL n (l.set k (x, r'))
  | [], k, h => by simp at h
  | y :: t, 0, h => by
    simp at h
    subst h
    rfl
  | y :: t, k + 1, h => by
    have := hvL_set n x r r' t k (by simpa using h)
    rw [List.set_cons_succ, hvL_cons, hvL_cons, ← this, show (k + 1) * 2 + 1 = (hvC n y).length + (k * 2 + 1) by simp [hvC]; omega, List.set_append_right _ _ (by omega)]
    simp
theorem rset_sl {w : World} {s sg n : Nat} {f : Nat → Bool} (h : RSet w s sg n f) : ∃ c, w.cell? ⟨s, 0, none⟩ = some (.slice (some ⟨sg, 0, none⟩) n c) ∧ Sl w (.slice (some ⟨sg, 0, none⟩) n c) 1 n (booL n f) := by
  obtain ⟨c, h0⟩ := h.s0
  refine ⟨c, h0, .inr ⟨_, c, rfl, by rw [booL_len, Nat.mul_one], fun j u hj => ?_⟩⟩
  unfold booL at hj
  rw [List.getElem?_map] at hj
  have hjn : j < n := by
    rcases Nat.lt_or_ge j n with hh | hh
    · exact hh
    · rw [List.getElem?_eq_none (by simpa using hh)] at hj; cases hj
  rw [List.getElem?_range hjn] at hj
  simp at hj
  subst hj
  rw [add_g]
  exact (h.at hjn).1

set_option maxRecDepth 100000 in
set_option maxHeartbeats 4000000 in
theorem refRSetBad (id : Int) (so : Option Nat) (b base n : Nat) (most : Int) (ks : List (Int × Rp)) (w : World) (h : RD w b base n most ks) (hbad : ¬ (1 ≤ id ∧ id ≤ 65536) ∨ so = none ∨ ∃ s sg n' f, so = some s ∧ RSet w s sg n' f ∧ n' ≠ n) :
    Calls Tryd.prog 38 #[.pointer (some ⟨b, 0, none⟩), .int .i64 id, .pointer (so.map fun s => ⟨s, 0, none⟩)] w fun e w' => e = .returned (.int .i64 1) ∧ Mod (fun _ => False) w w' := by
  obtain ⟨a, cap, c0, _, c2, _, _, _, _, _⟩ := h.at
  clear h
  by_cases hp : 1 ≤ id ∧ id ≤ 65536
  · have e1 := in_yes hp
    rcases hbad with hbad | rfl | ⟨s, sg, n', f, rfl, hs, hne⟩
    · exact absurd hp hbad
    · show Calls Tryd.prog 38 #[.pointer (some ⟨b, 0, none⟩), .int .i64 id, .pointer none] w _
      clear hp
      go_enter Tryd.func38, Tryd.ntmps38
      go_wp2_with fail
      refine (refId _ _).mono ?_; rw [e1]; rintro e w' ⟨rfl, rfl⟩
      clear e1
      go_upto_region 2 with fail
      go_quiet (fail)
      go_wp2_with fail
      go_ret
      exact ⟨rfl, (Mod.refl _ w).drewN _⟩
    · show Calls Tryd.prog 38 #[.pointer (some ⟨b, 0, none⟩), .int .i64 id, .pointer (some ⟨s, 0, none⟩)] w _
      obtain ⟨c, d0, _⟩ := rset_sl hs
      have hnn : ((n' : Int) != (n : Int)) = true := by simp; omega
      clear hs hne hp
      go_enter Tryd.func38, Tryd.ntmps38
      go_wp2_with fail
      refine (refId _ _).mono ?_; rw [e1]; rintro e w' ⟨rfl, rfl⟩
      clear e1
      go_upto_region 2 with fail
      go_quiet (fail)
      go_wp2_with fail
      go_ret
      exact ⟨rfl, (Mod.refl _ w).drewN _⟩
  · have e1 := in_no hp
    clear hbad hp
    go_enter Tryd.func38, Tryd.ntmps38
    go_wp2_with fail
    refine (refId _ _).mono ?_; rw [e1]; rintro e w' ⟨rfl, rfl⟩
    clear e1
    go_upto_region 2 with fail
    go_quiet (fail)
    go_wp2_with fail
    go_ret
    exact ⟨rfl, (Mod.refl _ w).drewN _⟩

set_option maxRecDepth 100000 in
set_option maxHeartbeats 4000000 in
theorem refRSetFull (id : Int) (s sg b base n : Nat) (most : Int) (ks : List (Int × Rp)) (f : Nat → Bool) (w : World) (h : RD w b base n most ks) (hs : RSet w s sg n f) (hlen : ks.length ≤ 999) (hr : Rising ks) (hbase : base ≤ w.heap.size) (hn : 1 ≤ n ∧ n ≤ 1024) (hp : 1 ≤ id ∧ id ≤ 65536) (hno : lkL ks id = none) (hroom : most ≤ (ks.length : Int)) :
    Calls Tryd.prog 38 #[.pointer (some ⟨b, 0, none⟩), .int .i64 id, .pointer (some ⟨s, 0, none⟩)] w fun e w' => e = .returned (.int .i64 3) ∧ Mod (fun _ => False) w w' := by
  have HNO := Lib.hid hno
  clear hno
  obtain ⟨a0, cap0, c0, _, _, _, _, _, _, _⟩ := h.at
  obtain ⟨cs, d0, hsl⟩ := rset_sl hs
  have hnn : ((n : Int) != (n : Int)) = false := by simp
  have e1 := in_yes hp
  have H := Lib.hid h
  have HSL := Lib.hid hsl
  have D0 := Lib.hid d0
  have HR := Lib.hid hr
  have HN := Lib.hid hn
  have HBA := Lib.hid hbase
  clear h hs hsl hr hp hbase
  go_enter Tryd.func38, Tryd.ntmps38
  go_wp2_with fail
  refine (refId _ _).mono ?_; rw [e1]; rintro e w' ⟨rfl, rfl⟩
  clear e1
  go_upto_region 2 with fail
  go_quiet (fail)
  have md := (Mod.refl (fun _ => False) w).drewN nq
  have H1 := Lib.hid (H.out.new md)
  have HSL1 := Lib.hid (HSL.out.mod md (fun _ _ _ _ h => h))
  have M1 := Lib.hid md
  clear md c0 d0
  have d0 : (w.drewN nq).cell? ⟨s, 0, none⟩ = some (.slice (some ⟨sg, 0, none⟩) n cs) := D0.out
  generalize w.drewN nq = w1 at *
  have ma := (Mod.refl (fun _ => False) w1).alloc (.cells #[] 4)
  have d1 := ma.cell d0 (fun h => h)
  clear ma
  go_upto_region 5 with (at_builtin; refine appS (base := w1.heap.size) rfl (.tmp 32) (.tmp 36) TBl 4 1 rfl Tryd.underlying87 infoBool rfl (by decide) _ _ _ _ n (booL n f) (by simp) (owns_empty _ _ _ _ (Nat.le_refl _)) rfl rfl (HSL1.out.mod ((Mod.refl (fun _ => False) w1).alloc _) (fun _ _ _ _ h => h)) (booL_one _ _) (by decide) (by have := HN.out; omega) ?_; intro v1 w4 o1 n1; rw [Nat.zero_add, List.nil_append] at o1; obtain ⟨g, cp, rfl⟩ := own_some o1 HN.out.1; have O4 := Lib.hid o1; have N4 := Lib.hid ((((Mod.refl (fun i => w1.heap.size ≤ i) w1).alloc (.cells #[] 4))).trans n1); clear o1 n1)
  have m4 := N4.out.mono (S' := fun _ => False) (fun i hi (e : w1.heap.size ≤ i) => by omega)
  have H4 := Lib.hid (H1.out.new m4)
  have M4 := Lib.hid (M1.out.trans m4)
  have HG4 := Lib.hid (show w1.heap.size ≤ g ∧ g < w4.heap.size from O4.out.lt g rfl)
  have HGQ : Hid (∀ q ∈ ks, q.2.g ≠ g) := fun q hq => by have := (H1.out.sets q hq).lt q.2.g rfl; have := HG4.out; omega
  have HBW := Lib.hid (show base ≤ w1.heap.size by have := M1.out.size; have := HBA.out; omega)
  clear m4 d0 d1 hnn
  have HF := Lib.hid (refRFindNo id b base n most ks w4 H4.out HR.out (by omega) HNO.out)
  go_wp2_with fail
  refine HF.out.mono ?_; rintro e w' ⟨rfl, rfl⟩
  obtain ⟨a, cap, _, c1, c2, _, _, _, _, _⟩ := H4.out.at
  go_upto_region 9 with fail
  go_quiet (fail)
  go_wp2_with fail
  go_ret
  exact ⟨rfl, M4.out.drewN _⟩

/-- What is known behind Set: the same, but of this one. -/
def SetR (n : Nat) (f : Nat → Bool) (b base : Nat) (most : Int) (ks : List (Int × Rp)) (id : Int) (w : World) (e : Ending) (w' : World) : Prop :=
  e = .returned (.int .i64 0) ∧ ∃ g cp, StepR n b base most ks (putL ks id ⟨g, cp, f⟩) w w'
set_option maxRecDepth 100000 in
set_option maxHeartbeats 4000000 in
theorem refRSetKnown (id : Int) (i : Nat) (r : Rp) (s sg b base n : Nat) (most : Int) (ks : List (Int × Rp)) (f : Nat → Bool) (w : World) (h : RD w b base n most ks) (hs : RSet w s sg n f) (hlen : ks.length ≤ 999) (hr : Rising ks) (hbase : base ≤ w.heap.size) (hn : 1 ≤ n ∧ n ≤ 1024) (hp : 1 ≤ id ∧ id ≤ 65536) (hi : ks[i]? = some (id, r)) :
    Calls Tryd.prog 38 #[.pointer (some ⟨b, 0, none⟩), .int .i64 id, .pointer (some ⟨s, 0, none⟩)] w (SetR n f b base most ks id w) := by
  have HI := Lib.hid hi
  have hi1 : decide ((i : Int) < 0) = false := by simp
  have hi0 : (0 : Int) ≤ (i : Int) := by omega
  have hil2 : i < ks.length := (List.getElem?_eq_some_iff.1 hi).1
  have hil : (i : Int) < ks.length := by omega
  clear hi
  obtain ⟨a0, cap0, c0, _, _, _, _, _, _, _⟩ := h.at
  obtain ⟨cs, d0, hsl⟩ := rset_sl hs
  have hnn : ((n : Int) != (n : Int)) = false := by simp
  have e1 := in_yes hp
  have H := Lib.hid h
  have HSL := Lib.hid hsl
  have D0 := Lib.hid d0
  have HR := Lib.hid hr
  have HN := Lib.hid hn
  have HBA := Lib.hid hbase
  clear h hs hsl hr hp hbase
  go_enter Tryd.func38, Tryd.ntmps38
  go_wp2_with fail
  refine (refId _ _).mono ?_; rw [e1]; rintro e w' ⟨rfl, rfl⟩
  clear e1
  go_upto_region 2 with fail
  go_quiet (fail)
  have md := (Mod.refl (fun _ => False) w).drewN nq
  have H1 := Lib.hid (H.out.new md)
  have HSL1 := Lib.hid (HSL.out.mod md (fun _ _ _ _ h => h))
  have M1 := Lib.hid md
  clear md c0 d0
  have d0 : (w.drewN nq).cell? ⟨s, 0, none⟩ = some (.slice (some ⟨sg, 0, none⟩) n cs) := D0.out
  generalize w.drewN nq = w1 at *
  have ma := (Mod.refl (fun _ => False) w1).alloc (.cells #[] 4)
  have d1 := ma.cell d0 (fun h => h)
  clear ma
  go_upto_region 5 with (at_builtin; refine appS (base := w1.heap.size) rfl (.tmp 32) (.tmp 36) TBl 4 1 rfl Tryd.underlying87 infoBool rfl (by decide) _ _ _ _ n (booL n f) (by simp) (owns_empty _ _ _ _ (Nat.le_refl _)) rfl rfl (HSL1.out.mod ((Mod.refl (fun _ => False) w1).alloc _) (fun _ _ _ _ h => h)) (booL_one _ _) (by decide) (by have := HN.out; omega) ?_; intro v1 w4 o1 n1; rw [Nat.zero_add, List.nil_append] at o1; obtain ⟨g, cp, rfl⟩ := own_some o1 HN.out.1; have O4 := Lib.hid o1; have N4 := Lib.hid ((((Mod.refl (fun i => w1.heap.size ≤ i) w1).alloc (.cells #[] 4))).trans n1); clear o1 n1)
  have m4 := N4.out.mono (S' := fun _ => False) (fun i hi (e : w1.heap.size ≤ i) => by omega)
  have H4 := Lib.hid (H1.out.new m4)
  have M4 := Lib.hid (M1.out.trans m4)
  have HG4 := Lib.hid (show w1.heap.size ≤ g ∧ g < w4.heap.size from O4.out.lt g rfl)
  have HGQ : Hid (∀ q ∈ ks, q.2.g ≠ g) := fun q hq => by have := (H1.out.sets q hq).lt q.2.g rfl; have := HG4.out; omega
  have HBW := Lib.hid (show base ≤ w1.heap.size by have := M1.out.size; have := HBA.out; omega)
  clear m4 d0 d1 hnn
  have HF := Lib.hid (refRFindAt id i r b base n most ks w4 H4.out HR.out (by omega) HI.out)
  obtain ⟨a, cap, _, _, c2, he, hbk, ho, _, hX⟩ := H4.out.at
  rcases ho.out.2 with ⟨h1, h2⟩ | ⟨gr, cap', cur, hv, hg, hgh, _⟩
  · simp only [Value.slice.injEq] at h1
    omega
  · cases hv
    obtain ⟨X, hX', p0, p1⟩ := hvEl he.out (Nat.le_refl _) HI.out
    cases hX'
    have hst := (ho.out.stored (i * 2 + 1) (.slice (some ⟨g, 0, none⟩) n cp)).1
    have hset := hvL_set n id r ⟨g, cp, f⟩ ks i HI.out
    simp only at hset
    rw [hset] at hst
    have hm := (Mod.refl (· = gr) w4).set1 (i * 2 + 1) (.slice (some ⟨g, 0, none⟩) n cp)
    have hlt := H4.out.lt
    have hput := put_at HR.out HI.out (⟨g, cp, f⟩ : Rp)
    have hlp : (putL ks id (⟨g, cp, f⟩ : Rp)).length = ks.length := by rw [hput]; simp
    have hgr : gr < w1.heap.size := by
      have h5 := H1.out.at
      obtain ⟨a5, cap5, _, _, k5, _, _, ho5, _, _⟩ := h5
      have h6 := H4.out.at
      have e5 : w4.cell? ⟨b, 2, none⟩ = some (.slice a5 ks.length cap5) := (N4.out.mono (S' := fun _ => False) (fun i hi (e : w1.heap.size ≤ i) => by omega)).cell k5 (fun h => h)
      rw [c2] at e5
      simp only [Option.some.injEq, Value.slice.injEq] at e5
      have h7 := (ho5.out.lt gr (by rw [← e5.1]; rfl)).2
      exact h7
    have hRD := H4.out.put (id := id) (g := g) (cp := cp) (f := f) (a := some ⟨gr, 0, none⟩) (cap := cap) (w2 := w4.setCell ⟨gr, i * 2 + 1, none⟩ (.slice (some ⟨g, 0, none⟩) n cp)) (by rw [hlp]; exact hbk.out.mod hm (by omega)) (by rw [hlp, hput]; exact hst)
      (fun X e => by cases e; exact ⟨by have := HG4.out; show gr ≠ g; omega, fun q hq => hX.out q hq _ rfl⟩)
      (fun q hq => owns_off (H4.out.sets q hq) hm (fun e => by simp [Value.ownBlock] at e; exact hX.out q hq _ rfl e.symm))
      (owns_off (O4.out.mono HBW.out) hm (fun e => by simp [Value.ownBlock] at e; have := HG4.out; omega)) HGQ.out
    have HRD := Lib.hid hRD
    have hcw : w.cell? ⟨b, 2, none⟩ = some (.slice (some ⟨gr, 0, none⟩) ks.length cap) := by
      obtain ⟨a5, cap5, _, _, k5, _, _, _, _, _⟩ := H.out.at
      have := M4.out.cell k5 (fun h => h)
      rw [c2] at this
      rw [k5, this]
    have HMM := Lib.hid ((M4.out.mono (S' := RDb w b ks) (fun _ _ h => h.elim)).trans (hm.mono (fun j _ e => .inr (.inl ⟨_, _, _, hcw, e⟩))))
    have HBD : Hid (∀ q, RDb (w4.setCell ⟨gr, i * 2 + 1, none⟩ (.slice (some ⟨g, 0, none⟩) n cp)) b (putL ks id ⟨g, cp, f⟩) q → RDb w b ks q ∨ w.heap.size ≤ q) := by
      intro q hq
      rcases hq with e | ⟨X', m, c, hx, e⟩ | ⟨q', hq', e⟩
      · exact .inl (.inl e)
      · have hc := hm.cell c2 (show ¬ b = gr by omega)
        rw [hc] at hx
        exact .inl (.inr (.inl ⟨X', m, c, by rw [hcw]; exact hx, e⟩))
      · rcases mem_putO hq' with rfl | hq'
        · exact .inr (by have := HG4.out; have := M1.out.size; simp only at e; omega)
        · exact .inl (.inr (.inr ⟨q', hq', e⟩))
    have q1 : w4.cell? ⟨gr, i * 2 + 1, none⟩ = some (.slice (some ⟨r.g, 0, none⟩) n r.cap) := by
      rw [ho.out.cellAt (i * 2 + 1) (by omega)]
      exact hvL_get n ks i 1 (id, r) HI.out (by decide)
    have q2 : w4.frozen? ⟨gr, i * 2 + 1, none⟩ = false := ho.out.frozenAt _
    clear hst hset hm hput hlp hRD p0 p1 hgh hgr hlt
    go_wp2_with fail
    refine HF.out.mono ?_; rintro e w' ⟨rfl, rfl⟩
    go_wp2_with fail
    go_ret
    exact ⟨rfl, g, cp, HRD.out, HMM.out, HBD.out⟩
end Go.Proofs.YtegmgflplhpacaaDoor
