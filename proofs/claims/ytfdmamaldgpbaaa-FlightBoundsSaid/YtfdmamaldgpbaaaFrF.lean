/- The reference of flight: Drop, Late; no condition. -/
import Derived.Test.YtfdmamaldgpbaaaFrE
namespace Go.Proofs.Ytfdmamaldgpbaaa
open Go Go.RowKit

theorem rqL_snoc (l : List (Int × Rq)) (x : Int) (r : Rq) : rqL (l ++ [(x, r)]) = rqL l ++ [.int .i64 r.p, .int .i64 x, .int .i64 r.t] := by rw [rqL_append, rq_one]

set_option maxRecDepth 100000 in
set_option maxHeartbeats 2000000 in
theorem refDrop (q : Int) (b base : Nat) (most each pat : Int) (ks : List (Int × Rq)) (w : World) (h : RT w b base most each pat ks) (hlen : ks.length ≤ 1000) (hbase : base ≤ w.heap.size) :
    Calls Try.prog 26 #[.pointer (some ⟨b, 0, none⟩), .int .i64 q] w fun e w' => (∃ v, e = .returned v ∧ w'.ownsRow w.heap.size TRq 3 v (ks.filter fun x => x.2.p == q).length (rqL (ks.filter fun x => x.2.p == q))) ∧ RT w' b base most each pat (ks.filter fun x => !(x.2.p == q)) ∧ Mod (· = b) w w' := by
  obtain ⟨a, cap, _, _, _, c3, f3, he, hbk, ho⟩ := h.at
  have HLT := Lib.hid h.lt
  have hb : b < w.heap.size := World.block_lt_of_cell? w _ c3
  obtain ⟨φ, hφ⟩ : ∃ φ : Int × Rq → Bool, φ = fun x => x.2.p == q := ⟨_, rfl⟩
  have HPHI := Lib.hid hφ
  rw [show (ks.filter fun x => x.2.p == q) = ks.filter φ by rw [hφ], show (ks.filter fun x => !(x.2.p == q)) = ks.filter (fun x => !φ x) by rw [hφ]]
  clear h hφ
  go_enter Try.func26, Try.ntmps26
  go_wp2_with fail
  go_loopw [5, 6, 7] (fun v u i wr => ∃ k : Nat, i = .int .i64 k ∧ k ≤ ks.length ∧ Hid (wr.ownsRow w.heap.size TRq 3 v ((ks.take k).filter φ).length (rqL ((ks.take k).filter φ))) ∧ Hid (wr.ownsRow w.heap.size TRq 3 u ((ks.take k).filter fun x => !φ x).length (rqL ((ks.take k).filter fun x => !φ x))) ∧ Hid (Apart v u) ∧ Mod (fun _ => False) w wr) (fun _ _ i _ => ks.length - (intOf i).toNat)
  case atStart => exact ⟨0, rfl, Nat.zero_le _, World.ownsRow_nil _ _ _ _, World.ownsRow_nil _ _ _ _, Apart.nil _, Mod.refl _ _⟩
  case round =>
    obtain ⟨k, rfl, hk, ho1, ho2, hap, hm⟩ := hrel
    have k3 := hm.cell c3 (fun h => h)
    by_cases hlt : (k : Int) < ks.length
    · obtain ⟨⟨x, r⟩, hkr⟩ : ∃ q, ks[k]? = some q := ⟨_, List.getElem?_eq_getElem (by omega)⟩
      obtain ⟨X, rfl, p0, p1, p2⟩ := rqEl (he.out.new hm) (Nat.le_refl _) hkr
      have F1 := Lib.hid (filter_take φ ks k (x, r) hkr)
      have F2 := Lib.hid (filter_take (fun x => !φ x) ks k (x, r) hkr)
      have hl1 : ((ks.take k).filter φ).length ≤ 1000 := by
        have := List.length_filter_le φ (ks.take k)
        have h2 : (ks.take k).length ≤ k := List.length_take_le _ _
        omega
      have hl2 : ((ks.take k).filter fun x => !φ x).length ≤ 1000 := by
        have := List.length_filter_le (fun x => !φ x) (ks.take k)
        have h2 : (ks.take k).length ≤ k := List.length_take_le _ _
        omega
      have hphi : φ (x, r) = (r.p == q) := by rw [HPHI.out]
      have hk1 : ks.length - (k + 1) < ks.length - k := by omega
      clear hkr
      by_cases e : r.p = q
      · have e' : (r.p == q) = true := by simpa using e
        have FT : Hid (φ (x, r) = true) := hphi.trans e'
        clear hphi e
        go_wp2_with (at_builtin; refine app1 (base := w.heap.size) rfl (.tmp 27) (.tmp 35) 36 TRq 3 rfl Try.underlying36 infoRq rfl (by decide) _ _ _ _ 1 [.int .i64 r.p, .int .i64 x, .int .i64 r.t] (by have := hm.size; simp; omega) (ho1.out.alloc _) rfl rfl (sl_new wr _ _) (by simp [Value.oneCell']) (by decide) (by omega) ?_; intro v' w' g1 g2 g3
                     have G1 := Lib.hid g1
                     have G2 := Lib.hid (((Mod.refl (fun i => u5.ownBlock = some i) wr).alloc (.cells #[.int .i64 r.p, .int .i64 x, .int .i64 r.t] TRq)).trans g2)
                     have G3 := Lib.hid g3
                     clear g1 g2 g3)
        refine ⟨⟨k + 1, by go_num, by omega, ?_, ?_, G3.out |> Apart.step hap.out ho2.out (by simp), (hm.new (G2.out) (own_ge ho1.out))⟩, by simp [intOf]; omega⟩
        · show World.ownsRow _ _ _ _ _ _ _
          rw [F1.out, FT.out, if_pos rfl, rqL_snoc]
          simpa using G1.out
        · show World.ownsRow _ _ _ _ _ _ _
          rw [F2.out, FT.out]
          simpa using owns_apart ho2.out G2.out hap.out
      · have e' : (r.p == q) = false := by simpa using e
        have FT : Hid (φ (x, r) = false) := hphi.trans e'
        clear hphi e
        go_wp2_with (at_builtin; refine app1 (base := w.heap.size) rfl (.tmp 37) (.tmp 45) 36 TRq 3 rfl Try.underlying36 infoRq rfl (by decide) _ _ _ _ 1 [.int .i64 r.p, .int .i64 x, .int .i64 r.t] (by have := hm.size; simp; omega) (ho2.out.alloc _) rfl rfl (sl_new wr _ _) (by simp [Value.oneCell']) (by decide) (by omega) ?_; intro v' w' g1 g2 g3
                     have G1 := Lib.hid g1
                     have G2 := Lib.hid (((Mod.refl (fun i => u6.ownBlock = some i) wr).alloc (.cells #[.int .i64 r.p, .int .i64 x, .int .i64 r.t] TRq)).trans g2)
                     have G3 := Lib.hid g3
                     clear g1 g2 g3)
        refine ⟨⟨k + 1, by go_num, by omega, ?_, ?_, (G3.out |> Apart.step hap.out.symm ho1.out (by simp)).symm, (hm.new (G2.out) (own_ge ho2.out))⟩, by simp [intOf]; omega⟩
        · show World.ownsRow _ _ _ _ _ _ _
          rw [F1.out, FT.out]
          simpa using owns_apart ho1.out G2.out hap.out.symm
        · show World.ownsRow _ _ _ _ _ _ _
          rw [F2.out, FT.out, Bool.not_false, if_pos rfl, rqL_snoc]
          simpa using G1.out
    · have hkn : k = ks.length := by omega
      have h1 := ho1.out
      have h2 := ho2.out
      rw [hkn, List.take_length] at h1 h2
      obtain ⟨a3, cap3, rfl, _, _, _⟩ := h2.els
      have O1 := Lib.hid h1
      have O2 := Lib.hid h2
      have f33 : wr.frozen? ⟨b, 3, none⟩ = false := by rw [hm.frozen (by show b < _; omega) (fun h => h)]; exact f3
      have HB := Lib.hid (hbk.out.mod hm (fun h => h))
      have hbw : base ≤ w.heap.size := hbase
      clear h1 h2 ho1 ho2 hkn
      go_wp2_with fail
      go_ret
      refine ⟨⟨_, rfl, ?_⟩, ⟨HLT.out, a3, cap3, HB.out.set 3 _, ?_⟩, (hm.mono (fun _ _ h => h.elim)).set1 3 _⟩
      · exact owns_mod (S := (· = b)) O1.out ((Mod.refl _ wr).set1 3 _) (fun i hi e => by omega)
      · exact (owns_mod (S := (· = b)) O2.out ((Mod.refl _ wr).set1 3 _) (fun i hi e => by omega)).mono hbw
end Go.Proofs.Ytfdmamaldgpbaaa
