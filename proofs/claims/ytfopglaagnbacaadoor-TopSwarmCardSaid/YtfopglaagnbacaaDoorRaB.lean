/- Package rarest: Set, Count, Of; no condition but the table. -/
import Derived.Test.YtfopglaagnbacaaDoorRaA
namespace Go.Proofs.YtfopglaagnbacaaDoor
open Go Go.RowKit

theorem i64_of {k : Int} (h1 : -1000000000000 ≤ k) (h2 : k ≤ 1000000000000) : I64 k := by
  show (Lit.int .i64 k).wf = true
  simp [Lit.wf, IntKind.min, IntKind.max, IntKind.signed, IntKind.bits]; omega
theorem pairwise_insS {α : Type} {R : Int × α → Int × α → Prop} (x : Int × α) : ∀ {l : List (Int × α)}, l.Pairwise R → (∀ q ∈ l, R x q) → (∀ q ∈ l, R q x) → (insS x l).Pairwise R
  | [], _, _, _ => List.pairwise_singleton _ _
  | y :: t, h, h1, h2 => by
    obtain ⟨h3, h4⟩ := List.pairwise_cons.1 h
    unfold insS
    split
    · exact List.pairwise_cons.2 ⟨h1, h⟩
    · refine List.pairwise_cons.2 ⟨fun q hq => ?_, pairwise_insS x h4 (fun q hq => h1 q (List.mem_cons_of_mem _ hq)) (fun q hq => h2 q (List.mem_cons_of_mem _ hq))⟩
      rcases mem_insS.1 hq with rfl | hq
      · exact h2 y (List.mem_cons_self ..)
      · exact h3 q hq
theorem mem_putO {α : Type} {ks : List (Int × α)} {id : Int} {r : α} {q : Int × α} (h : q ∈ putL ks id r) : q = (id, r) ∨ q ∈ ks := by
  unfold putL at h
  rcases mem_insS.1 h with h | h
  · exact .inl h
  · exact .inr (List.mem_filter.1 h).1
theorem BD.put {w w2 : World} {b M g n : Nat} {most : Int} {c c2 : Nat → Int} {ks : List (Int × Ow)} (h : BD w b M g n most c ks) {peer : Int} {x y : Nat} {f : Nat → Bool}
    (hm : Mod (fun i => i = M ∨ i = g) w w2) (him : IMap Tryd.prog 3 w2 M (mpO (putL ks peer ⟨x, y, f⟩))) (hcn : Cn w2 g n c2) (hs : BSet w2 x y n f) (hx : w.heap.size ≤ x) (hy : w.heap.size ≤ y) : BD w2 b M g n most c2 (putL ks peer ⟨x, y, f⟩) := by
  have hb := h.lt (.inl rfl)
  have hM := h.lt (.inr (.inl rfl))
  have hg := h.lt (.inr (.inr (.inl rfl)))
  have hq : ∀ q ∈ ks, q.2.s < w.heap.size ∧ q.2.g < w.heap.size := fun q hq => ⟨(h.sets q hq).lt.1, (h.sets q hq).lt.2⟩
  have hne := h.ne
  have ht := h.tab b (.inl rfl)
  refine ⟨h.head.mod hm (by omega), him, hcn, fun q hq' => ?_, h.ne, fun q hq' => ?_, ?_, fun i hi => ?_⟩
  · rcases mem_putO hq' with rfl | hq'
    · exact hs
    · have := h.off q hq'
      exact (h.sets q hq').mod hm (by omega) (by omega)
  · rcases mem_putO hq' with rfl | hq'
    · simp only
      omega
    · exact h.off q hq'
  · unfold putL
    refine pairwise_insS _ (h.two.filter _) (fun q hq' => ?_) (fun q hq' => ?_)
    · have := hq q (List.mem_filter.1 hq').1
      simp only
      omega
    · have := hq q (List.mem_filter.1 hq').1
      simp only
      omega
  · rcases hi with rfl | rfl | rfl | ⟨q, hq', e⟩
    · exact ht
    · exact h.tab _ (.inr (.inl rfl))
    · exact h.tab _ (.inr (.inr (.inl rfl)))
    · rcases mem_putO hq' with rfl | hq'
      · simp only at e
        omega
      · exact h.tab _ (.inr (.inr (.inr ⟨q, hq', e⟩)))

/-- A board and a set that came in do not share blocks. -/
def ApartO (b M g : Nat) (ks : List (Int × Ow)) (s sg : Nat) : Prop := ∀ i, BDb b M g ks i → i ≠ s ∧ i ≠ sg

theorem mod_w {P Q : Nat → Prop} {w w' : World} (h : Mod P w w') (hq : ∀ i, P i → Q i) : Mod Q w w' := h.mono fun i _ e => hq i e

set_option maxRecDepth 100000 in
set_option maxHeartbeats 4000000 in
theorem rareSetNew (peer : Int) (s sg b M g n : Nat) (most : Int) (c : Nat → Int) (ks : List (Int × Ow)) (f : Nat → Bool) (w : World) (h : BD w b M g n most c ks) (hs : BSet w s sg n f) (hT : TabW w) (hap : ApartO b M g ks s sg) (hp : 1 ≤ peer ∧ peer ≤ 65536) (hr : ∀ k, -900 ≤ c k ∧ c k ≤ 900)
    (hn : n ≤ 1024) (hlen : ks.length ≤ 1000) (hno : lkL ks peer = none) (hroom : (ks.length : Int) < most) :
    Calls Tryd.prog 17 #[.pointer (some ⟨b, 0, none⟩), .int .i64 peer, .pointer (some ⟨s, 0, none⟩)] w fun e w' => ∃ x y : Nat, e = .returned (.int .i64 0) ∧ BD w' b M g n most (cnK c f 1 n) (putL ks peer ⟨x, y, f⟩) ∧ Mod (fun i => i = M ∨ i = g) w w' ∧ w.heap.size ≤ x ∧ w.heap.size ≤ y := by
  have c2 := h.head.cell 2; have c0 := h.head.cell 0; have c1 := h.head.cell 1
  have hI : I64 peer := i64_of (by omega) (by omega)
  have hl := h.map.lookOk Tryd.underlying3 Tryd.underlying73 (zeroPtr w) hI
  rw [lk_mpO, hno] at hl
  have hz := zeroPtr
  have H := Lib.hid h
  have HIP := Lib.hid hI
  have HAP := Lib.hid hap
  have HS := Lib.hid hs
  have HT := Lib.hid hT
  have HR := Lib.hid hr
  have HLN := Lib.hid hlen
  have HN4 := Lib.hid hn
  have p1 : ¬ peer < 1 := by omega
  have p2 : ¬ 65536 < peer := by omega
  have p1' : decide (peer < 1) = false := by simpa using p1
  have p2' : decide (65536 < peer) = false := by simpa using p2
  clear h hap hs hT hr hlen hI hno
  go_enter Tryd.func17, Tryd.ntmps17
  go_upto_region 2 with fail
  clear hl
  have hnn : ((n : Int) != (n : Int)) = false := by simp
  refine wp_region2 [] [28] (by kernel_rfl) (by kernel_rfl) ?_
  repeat (first | (refine reg_anyT (by rfl) (fun K hK => ?_); go_simp; refine hK _ _ ?_; clear hK K) | (refine reg_read (by rfl) (fun K hK => ?_); go_simp; refine hK _ _ ?_; clear hK K))
  refine reg_read (by rfl) (fun K hK => ?_); go_simp
  refine ⟨_, fun rn => rd_same (bitsLen s sg n f _ (HS.out.drewN rn)), hK _ _ ?_⟩; clear hK K
  repeat (first | (refine reg_anyT (by rfl) (fun K hK => ?_); go_simp; refine hK _ _ ?_; clear hK K) | (refine reg_read (by rfl) (fun K hK => ?_); go_simp; refine hK _ _ ?_; clear hK K))
  refine reg_nil (fun nd => ?_)
  have md := (Mod.refl (fun _ => False) w).drewN nd
  have H1 := Lib.hid (H.out.new md)
  have HS1 := Lib.hid (HS.out.mod md (fun h => h) (fun h => h))
  have HT1 := Lib.hid (HT.out.mod md (fun h => h))
  have HM1 := Lib.hid (mod_w (Q := (· = g)) md (fun i h => h.elim))
  clear md c0 c1 c2
  generalize w.drewN nd = w1 at *
  have c1 := H1.out.head.cell 1; have c2 := H1.out.head.cell 2
  have hml : ∀ q, (Builtin.len_ #[73] 3 #[.map (some M)]).run Tryd.prog (w1.drewN q) = .ok (.int .i64 (ks.length : Int)) (w1.drewN q) := by
    intro q
    have := (H1.out.map.drewN q).len (T := 73) Tryd.underlying73 3
    rw [mpO_len] at this
    exact this
  have hrm : decide (most ≤ (ks.length : Int)) = false := by simp; omega
  go_upto_region 6 with fail
  go_quiet (fail)
  have md := (Mod.refl (fun _ => False) w1).drewN nq
  have HB4 := Lib.hid (H1.out.new md)
  have HS4 := Lib.hid (HS1.out.mod md (fun h => h) (fun h => h))
  have HT4 := Lib.hid (HT1.out.mod md (fun h => h))
  have HM4 := Lib.hid (HM1.out.trans (mod_w md (fun i h => h.elim)))
  have HR4 : Hid (∀ k, -1000 ≤ c k ∧ c k ≤ 1000) := fun k => by have := HR.out k; omega
  clear md c1 c2 hml hrm H1 HS1 HT1 HM1 H HS HT
  generalize w1.drewN nq = w4 at *
  have c2 := HB4.out.head.cell 2; have c3 := HB4.out.head.cell 3
  go_upto_region 8 with fail
  refine wp_region2 [(3, 3), (6, 4), (7, 2)] [] (by kernel_rfl) (by kernel_rfl) ?_
  repeat (first | (refine reg_anyT (by rfl) (fun K hK => ?_); go_simp; refine hK _ _ ?_; clear hK K) | (refine reg_read (by rfl) (fun K hK => ?_); go_simp; refine hK _ _ ?_; clear hK K))
  refine reg_hold_v (by rfl) (by rfl) (.map (some M)) (fun w' hw' => q_load _ _ _ rfl rfl Tryd.isAgg73 (hw'.cell c2)) ?_
  repeat (first | (refine reg_anyT (by rfl) (fun K hK => ?_); go_simp; refine hK _ _ ?_; clear hK K) | (refine reg_read (by rfl) (fun K hK => ?_); go_simp; refine hK _ _ ?_; clear hK K))
  refine reg_new (by rfl) (fun rn K hK => ?_); go_simp
  refine (rareCopied s sg n f _ (HS4.out.drewN rn)).mono ?_; rintro e w5 ⟨x, y, rfl, h5, m5, hx5, hy5⟩
  refine hK _ _ ⟨m5.ex, ?_⟩; clear hK K
  have B5 := Lib.hid (HB4.out.new m5.undrew)
  have M5 := Lib.hid m5.undrew
  have S5 := Lib.hid h5
  have HX5 := Lib.hid (show w4.heap.size ≤ x ∧ w4.heap.size ≤ y from ⟨hx5, hy5⟩)
  clear h5 m5 hx5 hy5
  repeat (first | (refine reg_anyT (by rfl) (fun K hK => ?_); go_simp; refine hK _ _ ?_; clear hK K) | (refine reg_read (by rfl) (fun K hK => ?_); go_simp; refine hK _ _ ?_; clear hK K))
  refine reg_eff (by rfl) (fun rn K hK => ?_)
  obtain ⟨w6, hrun, him, hm6, hz6⟩ := (B5.out.drewN rn).map.put Tryd.underlying3 Tryd.underlying73 (by rw [mpO_len]; have := HLN.out; unfold maxLen; omega) HIP.out (.pointer (some ⟨x, 0, none⟩))
  go_simp
  refine hK _ _ ?_; clear hK K
  rw [show (Value.pointer (some ⟨x, 0, none⟩)) = .pointer (some ⟨(⟨x, y, f⟩ : Ow).s, 0, none⟩) from rfl, put_mpO] at him
  refine reg_nil (fun nd => ?_)
  have hne := HB4.out.ne
  have hM4 := HB4.out.lt (.inr (.inl rfl))
  have m46 : Mod (· = M) w4 (w6.drewN nd) := ((mod_w M5.out (fun i h => h.elim)).trans hm6.undrew).drewN nd
  have hcn6 := Lib.hid (HB4.out.cn.mod m46 (by omega))
  have hb6 : (w6.drewN nd).cell? ⟨b, 3, none⟩ = some (.slice (some ⟨g, 0, none⟩) n n) := m46.cell c3 (by show ¬ b = M; omega)
  have hap := HAP.out
  have hS6 := Lib.hid (HS4.out.mod m46 (fun e => (hap M (.inr (.inl rfl))).1 e.symm) (fun e => (hap M (.inr (.inl rfl))).2 e.symm))
  have hT6 := Lib.hid (HT4.out.mod m46 (by have := HB4.out.tab M (.inr (.inl rfl)); omega))
  have him6 := Lib.hid (him.drewN nd)
  have hx6 := Lib.hid (S5.out.mod (hm6.undrew.drewN nd) (by have := HX5.out; omega) (by have := HX5.out; omega))
  have HC := Lib.hid (rareCount b g n s sg 1 c f (w6.drewN nd) hb6 hcn6.out hS6.out hT6.out (by decide) HR4.out HN4.out ⟨by omega, (hap g (.inr (.inr (.inl rfl)))).1, (hap g (.inr (.inr (.inl rfl)))).2, by have := HB4.out.tab g (.inr (.inr (.inl rfl))); omega⟩)
  have M46 := Lib.hid m46
  clear him hm6 hz6 hrun m46 hne hM4 c2 c3 hb6 hap
  generalize w6.drewN nd = w6' at *
  go_wp2_with fail
  refine HC.out.mono ?_; rintro e w7 ⟨rfl, hc7, m7⟩
  have hg4 := HB4.out.lt (.inr (.inr (.inl rfl)))
  have hne := HB4.out.ne
  have m47 : Mod (fun i => i = M ∨ i = g) w4 w7 := (mod_w M46.out (fun i e => .inl e)).trans (mod_w m7 (fun i e => .inr e))
  have B7 := Lib.hid (HB4.out.put (peer := peer) m47 (him6.out.mod m7 (by omega)) hc7 (hx6.out.mod m7 (by have := HX5.out; omega) (by have := HX5.out; omega)) HX5.out.1 HX5.out.2)
  have M7 := Lib.hid ((mod_w HM4.out (fun i e => .inr e)).trans m47)
  clear hc7 m7 hg4 hne m47
  go_wp2_with fail
  go_ret
  exact ⟨x, y, rfl, B7.out, M7.out, by have := HX5.out; have := HM4.out.size; omega, by have := HX5.out; have := HM4.out.size; omega⟩
end Go.Proofs.YtfopglaagnbacaaDoor
