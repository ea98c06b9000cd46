/- The reference of flight: Late; no condition. -/
import Derived.Test.YtfdmamaldgpbaaaFrF
namespace Go.Proofs.Ytfdmamaldgpbaaa
open Go Go.RowKit

set_option maxRecDepth 100000 in
set_option maxHeartbeats 400000 in
theorem refLateBad (q : Int) (b : Nat) (w : World) (hq : ¬ (0 ≤ q ∧ q ≤ 1099511627776)) :
    Calls Try.prog 27 #[.pointer (some ⟨b, 0, none⟩), .int .i64 q] w fun e w' => e = .returned (.tuple #[.slice none 0 0, .int .i64 1]) ∧ w = w' := by
  have e1 : (decide (0 ≤ q) && decide (q ≤ 1099511627776)) = false := by
    rw [Bool.and_eq_false_iff, decide_eq_false_iff_not, decide_eq_false_iff_not]; omega
  clear hq
  go_enter Try.func27, Try.ntmps27
  go_wp2_with fail
  refine (refMoment _ _).mono ?_; rw [e1]; rintro e w' ⟨rfl, rfl⟩
  go_wp2_with fail
  go_ret2
  exact ⟨rfl, rfl⟩
set_option maxRecDepth 100000 in
set_option maxHeartbeats 2000000 in
theorem refLate (q : Int) (b base : Nat) (most each pat : Int) (ks : List (Int × Rq)) (w : World) (h : RT w b base most each pat ks) (hlen : ks.length ≤ 1000) (hbase : base ≤ w.heap.size) (hq : 0 ≤ q ∧ q ≤ 1099511627776) (ht : ∀ q ∈ ks, 0 ≤ q.2.t ∧ q.2.t ≤ 1099511627776) :
    Calls Try.prog 27 #[.pointer (some ⟨b, 0, none⟩), .int .i64 q] w fun e w' => (∃ v, e = .returned (.tuple #[v, .int .i64 0]) ∧ w'.ownsRow w.heap.size TRq 3 v (ks.filter fun x => decide (pat ≤ q - x.2.t)).length (rqL (ks.filter fun x => decide (pat ≤ q - x.2.t)))) ∧ RT w' b base most each pat (ks.filter fun x => !(decide (pat ≤ q - x.2.t))) ∧ Mod (· = b) w w' := by
  obtain ⟨a, cap, _, _, c2, c3, f3, he, hbk, ho⟩ := h.at
  have e1 : (decide (0 ≤ q) && decide (q ≤ 1099511627776)) = true := by simp [hq.1, hq.2]
  have HTT := Lib.hid ht
  have HLT := Lib.hid h.lt
  have hb : b < w.heap.size := World.block_lt_of_cell? w _ c3
  obtain ⟨φ, hφ⟩ : ∃ φ : Int × Rq → Bool, φ = fun x => decide (pat ≤ q - x.2.t) := ⟨_, rfl⟩
  have HPHI := Lib.hid hφ
  rw [show (ks.filter fun x => decide (pat ≤ q - x.2.t)) = ks.filter φ by rw [hφ], show (ks.filter fun x => !(decide (pat ≤ q - x.2.t))) = ks.filter (fun x => !φ x) by rw [hφ]]
  clear h hφ ht
  go_enter Try.func27, Try.ntmps27
  go_wp2_with fail
  refine (refMoment _ _).mono ?_; rw [e1]; rintro e w' ⟨rfl, rfl⟩
  clear e1
  go_wp2_with fail
  go_loopw [7, 8, 9] (fun v u i wr => ∃ k : Nat, i = .int .i64 k ∧ k ≤ ks.length ∧ Hid (wr.ownsRow w.heap.size TRq 3 v ((ks.take k).filter φ).length (rqL ((ks.take k).filter φ))) ∧ Hid (wr.ownsRow w.heap.size TRq 3 u ((ks.take k).filter fun x => !φ x).length (rqL ((ks.take k).filter fun x => !φ x))) ∧ Hid (Apart v u) ∧ Mod (fun _ => False) w wr) (fun _ _ i _ => ks.length - (intOf i).toNat)
  case atStart => exact ⟨0, rfl, Nat.zero_le _, World.ownsRow_nil _ _ _ _, World.ownsRow_nil _ _ _ _, Apart.nil _, Mod.refl _ _⟩
  case round =>
    obtain ⟨k, rfl, hk, ho1, ho2, hap, hm⟩ := hrel
    have k3 := hm.cell c3 (fun h => h)
    have k2 := hm.cell c2 (fun h => h)
    by_cases hlt : (k : Int) < ks.length
    · obtain ⟨⟨x, r⟩, hkr⟩ : ∃ q, ks[k]? = some q := ⟨_, List.getElem?_eq_getElem (by omega)⟩
      obtain ⟨X, rfl, p0, p1, p2⟩ := rqEl (he.out.new hm) (Nat.le_refl _) hkr
      have F1 := Lib.hid (filter_take φ ks k (x, r) hkr)
      have F2 := Lib.hid (filter_take (fun x => !φ x) ks k (x, r) hkr)
      have hl1 : ((ks.take k).filter φ).length ≤ 1000 := by
        have := List.length_filter_le φ (ks.take k)
        have h2 : (ks.take k).length ≤ k := List.length_take_le _ _
        omega
      have hl2 : ((ks.take k).filter fun x => !φ x).length ≤ 1000 := by
        have := List.length_filter_le (fun x => !φ x) (ks.take k)
        have h2 : (ks.take k).length ≤ k := List.length_take_le _ _
        omega
      have hphi : φ (x, r) = decide (pat ≤ q - r.t) := by rw [HPHI.out]
      have hk1 : ks.length - (k + 1) < ks.length - k := by omega
      have hqt := HTT.out _ (List.mem_of_getElem? hkr)
      obtain ⟨d, hd⟩ : ∃ d, d = q - r.t := ⟨_, rfl⟩
      rw [← hd] at hphi
      have hwr : IntKind.i64.wrap (q - r.t) = d := by rw [hd]; unfold IntKind.wrap; simp [IntKind.bits, IntKind.signed]; simp only at hqt; omega
      clear hkr hd hqt
      by_cases e : pat ≤ d
      · have e' : decide (pat ≤ d) = true := by simpa using e
        have FT : Hid (φ (x, r) = true) := hphi.trans e'
        clear hphi
        go_wp2_with fail
        go_quiet (fail)
        obtain ⟨wd, hwd⟩ : ∃ wd, wd = wr.drewN nq := ⟨_, rfl⟩
        have hmd : Mod (fun _ => False) wr wd := by rw [hwd]; exact (Mod.refl _ wr).drewN nq
        rw [← hwd]
        have OD1 := Lib.hid (owns_new ho1.out hmd)
        have OD2 := Lib.hid (owns_new ho2.out hmd)
        have HM := Lib.hid (hm.trans hmd)
        have hmm := HM.out
        have z3 := hmd.cell k3 (fun h => h)
        have z0 := hmd.cell p0 (fun h => h); have z1 := hmd.cell p1 (fun h => h); have z2 := hmd.cell p2 (fun h => h)
        clear hwd hm
        go_wp2_with (at_builtin; refine app1 (base := w.heap.size) rfl (.tmp 38) (.tmp 46) 36 TRq 3 rfl Try.underlying36 infoRq rfl (by decide) _ _ _ _ 1 [.int .i64 r.p, .int .i64 x, .int .i64 r.t] (by have := HM.out.size; simp; omega) (OD1.out.alloc _) rfl rfl (sl_new wd _ _) (by simp [Value.oneCell']) (by decide) (by omega) ?_; intro v' w' g1 g2 g3
                     have G1 := Lib.hid g1
                     have G2 := Lib.hid (((Mod.refl (fun i => u7.ownBlock = some i) wd).alloc (.cells #[.int .i64 r.p, .int .i64 x, .int .i64 r.t] TRq)).trans g2)
                     have G3 := Lib.hid g3
                     clear g1 g2 g3)
        refine ⟨⟨k + 1, by go_num, by omega, ?_, ?_, G3.out |> Apart.step hap.out OD2.out (by simp), (HM.out.new (G2.out) (own_ge OD1.out))⟩, by simp [intOf]; omega⟩
        · show World.ownsRow _ _ _ _ _ _ _
          rw [F1.out, FT.out, if_pos rfl, rqL_snoc]
          simpa using G1.out
        · show World.ownsRow _ _ _ _ _ _ _
          rw [F2.out, FT.out]
          simpa using owns_apart OD2.out G2.out hap.out
      · have e' : decide (pat ≤ d) = false := by simpa using e
        have FT : Hid (φ (x, r) = false) := hphi.trans e'
        clear hphi
        go_wp2_with fail
        go_quiet (fail)
        obtain ⟨wd, hwd⟩ : ∃ wd, wd = wr.drewN nq := ⟨_, rfl⟩
        have hmd : Mod (fun _ => False) wr wd := by rw [hwd]; exact (Mod.refl _ wr).drewN nq
        rw [← hwd]
        have OD1 := Lib.hid (owns_new ho1.out hmd)
        have OD2 := Lib.hid (owns_new ho2.out hmd)
        have HM := Lib.hid (hm.trans hmd)
        have hmm := HM.out
        have z3 := hmd.cell k3 (fun h => h)
        have z0 := hmd.cell p0 (fun h => h); have z1 := hmd.cell p1 (fun h => h); have z2 := hmd.cell p2 (fun h => h)
        clear hwd hm
        go_wp2_with (at_builtin; refine app1 (base := w.heap.size) rfl (.tmp 48) (.tmp 56) 36 TRq 3 rfl Try.underlying36 infoRq rfl (by decide) _ _ _ _ 1 [.int .i64 r.p, .int .i64 x, .int .i64 r.t] (by have := HM.out.size; simp; omega) (OD2.out.alloc _) rfl rfl (sl_new wd _ _) (by simp [Value.oneCell']) (by decide) (by omega) ?_; intro v' w' g1 g2 g3
                     have G1 := Lib.hid g1
                     have G2 := Lib.hid (((Mod.refl (fun i => u8.ownBlock = some i) wd).alloc (.cells #[.int .i64 r.p, .int .i64 x, .int .i64 r.t] TRq)).trans g2)
                     have G3 := Lib.hid g3
                     clear g1 g2 g3)
        refine ⟨⟨k + 1, by go_num, by omega, ?_, ?_, (G3.out |> Apart.step hap.out.symm OD1.out (by simp)).symm, (HM.out.new (G2.out) (own_ge OD2.out))⟩, by simp [intOf]; omega⟩
        · show World.ownsRow _ _ _ _ _ _ _
          rw [F1.out, FT.out]
          simpa using owns_apart OD1.out G2.out hap.out.symm
        · show World.ownsRow _ _ _ _ _ _ _
          rw [F2.out, FT.out, Bool.not_false, if_pos rfl, rqL_snoc]
          simpa using G1.out
    · have hkn : k = ks.length := by omega
      have h1 := ho1.out
      have h2 := ho2.out
      rw [hkn, List.take_length] at h1 h2
      obtain ⟨a3, cap3, rfl, _, _, _⟩ := h2.els
      have O1 := Lib.hid h1
      have O2 := Lib.hid h2
      have f33 : wr.frozen? ⟨b, 3, none⟩ = false := by rw [hm.frozen (by show b < _; omega) (fun h => h)]; exact f3
      have HB := Lib.hid (hbk.out.mod hm (fun h => h))
      have hbw : base ≤ w.heap.size := hbase
      clear h1 h2 ho1 ho2 hkn
      go_wp2_with fail
      go_ret2
      refine ⟨⟨_, rfl, ?_⟩, ⟨HLT.out, a3, cap3, HB.out.set 3 _, ?_⟩, (hm.mono (fun _ _ h => h.elim)).set1 3 _⟩
      · exact owns_mod (S := (· = b)) O1.out ((Mod.refl _ wr).set1 3 _) (fun i hi e => by omega)
      · exact (owns_mod (S := (· = b)) O2.out ((Mod.refl _ wr).set1 3 _) (fun i hi e => by omega)).mono hbw
end Go.Proofs.Ytfdmamaldgpbaaa
