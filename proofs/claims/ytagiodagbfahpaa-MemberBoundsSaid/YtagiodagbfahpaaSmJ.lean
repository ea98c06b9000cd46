/- The reference of member: Gossip, for any seed; no condition. -/
import Derived.Test.YtagiodagbfahpaaSmI
namespace Go.Proofs.Ytagiodagbfahpaa
open Go Go.RowKit

set_option maxRecDepth 100000 in
set_option maxHeartbeats 4000000 in
theorem refVGossip (seed k : Int) (b base : Nat) (S : Int × Rc) (most : Int) (ks : List (Int × Rc)) (w : World) (h : RW w b base S most ks) (hr : Rising ks) (hlen : ks.length ≤ 1000) (hbase : base ≤ w.heap.size) :
    Calls Try.prog 39 #[.pointer (some ⟨b, 0, none⟩), .int .i64 k, .int .u64 seed] w fun e w' => (∃ v, e = .returned v ∧ w'.ownsRow w.heap.size TMb 4 v (gosL S seed k ks).length (recL (gosL S seed k ks))) ∧ Mod (fun _ => False) w w' := by
  obtain ⟨a, cap, _, c3, _, he, _, _, _⟩ := h.at
  obtain ⟨L, hL⟩ : ∃ L, L = gosI seed k ks := ⟨_, rfl⟩
  rw [show gosL S seed k ks = L.map (fun i => (i, rd ks i)) ++ [S] by rw [hL]; rfl]
  have HL := Lib.hid hL
  have H := Lib.hid h
  have HR := Lib.hid hr
  have HBA := Lib.hid hbase
  clear hL h hr hbase
  go_enter Try.func39, Try.ntmps39
  go_wp2_with fail
  go_loopw [7, 8] (fun v i wr => ∃ k : Nat, i = .int .i64 k ∧ k ≤ ks.length ∧ Hid (wr.ownsRow w.heap.size 3 1 v (keysL (ks.take k)).length (intL (keysL (ks.take k)))) ∧ Mod (fun _ => False) w wr) (fun _ i _ => ks.length - (intOf i).toNat)
  case atStart => exact ⟨0, rfl, Nat.zero_le _, World.ownsRow_nil _ _ _ _, Mod.refl _ _⟩
  case round =>
    obtain ⟨j, rfl, hj, ho1, hm⟩ := hrel
    have k3 := hm.cell c3 (fun h => h)
    by_cases hlt : (j : Int) < ks.length
    · obtain ⟨⟨x, r⟩, hkr⟩ : ∃ q, ks[j]? = some q := ⟨_, List.getElem?_eq_getElem (by omega)⟩
      obtain ⟨X, rfl, p0, p1, p2, p3⟩ := recEl (he.out.new hm) (Nat.le_refl _) hkr
      have HT := Lib.hid (show keysL (ks.take (j + 1)) = keysL (ks.take j) ++ [x] by rw [List.take_add_one, hkr, keys_append]; rfl)
      have hl1 : (keysL (ks.take j)).length ≤ 1000 := by
        rw [keys_len]
        have h2 : (ks.take j).length ≤ j := List.length_take_le _ _
        omega
      clear hkr
      go_wp2_with (at_builtin; refine app1 (base := w.heap.size) rfl (.tmp 22) (.tmp 31) 41 3 1 rfl Try.underlying41 infoInt rfl (by decide) _ _ _ _ 1 [.int .i64 x] (by have := hm.size; simp; omega) (ho1.out.alloc _) rfl rfl (sl_new wr #[.int .i64 x] 3) (by simp [Value.oneCell']) (by decide) (by omega) ?_; intro v' w' g1 g2 g3; have G1 := Lib.hid g1; have G2 := Lib.hid (((Mod.refl _ wr).alloc (.cells #[.int .i64 x] 3)).trans g2); clear g1 g2 g3)
      refine ⟨⟨j + 1, by go_num, by omega, ?_, hm.new G2.out (own_ge ho1.out)⟩, by simp [intOf]; omega⟩
      show World.ownsRow _ _ _ _ _ _ _
      rw [HT.out, intL_append, List.length_append]
      exact G1.out
    · have hkn : j = ks.length := by omega
      have h1 := ho1.out
      rw [hkn, List.take_length] at h1
      have O1 := Lib.hid h1
      have M1 := Lib.hid hm
      clear h1 ho1 hkn hm hj c3
      obtain ⟨w1, hw1⟩ : ∃ w1, w1 = wr := ⟨_, rfl⟩
      rw [← hw1] at M1 O1 k3 ⊢
      clear hw1
      have ma := (Mod.refl (fun _ => False) w1).alloc (.cells #[.int .u64 seed] 97)
      have XA := Blk.new w1 #[.int .u64 seed] 97
      have HSM := Lib.hid (refSample u7 (keysL ks) seed k w1.heap.size _ ((O1.out.alloc (.cells #[.int .u64 seed] 97)).sl) (by rw [keys_len]; omega) (XA.cell 0) (XA.frozen 0))
      have M2 := Lib.hid (M1.out.trans ma)
      have HZ := Lib.hid (show w.heap.size ≤ w1.heap.size from M1.out.size)
      clear ma XA
      go_wp2_with fail
      refine HSM.out.mono ?_; rintro e w3 ⟨v3, rfl, o3, _, _, m3⟩
      have M3 := Lib.hid (M2.out.new m3 (by intro i hi; have := HZ.out; omega))
      have R3 := Lib.hid (H.out.new M3.out)
      rw [keys_len] at o3
      have O3 := Lib.hid (show w3.ownsRow w.heap.size 3 1 v3 L.length (ints L) by rw [HL.out, gosI_len]; exact o3.mono (by have := M2.out.size; simp at this; simp; omega))
      have HLM := Lib.hid (show ∀ x ∈ L, ∃ r, (x, r) ∈ ks by rw [HL.out]; exact fun x hx => gosI_mem hx)
      have hLl : L.length ≤ 1000 := by rw [HL.out, gosI_len]; have := smp_le k ks.length; omega
      obtain ⟨a3, cap3, rfl, _, he3, _⟩ := O3.out.els
      have HE3 := Lib.hid he3
      clear o3 m3 he3 k3 HSM O1 M1 M2
      obtain ⟨aL, capL, _, c5, _, heL, _, _, _⟩ := R3.out.at
      go_wp2_with fail
      go_loopw [11, 12] (fun v i wr => ∃ k : Nat, i = .int .i64 k ∧ k ≤ L.length ∧ Hid (wr.ownsRow w3.heap.size TMb 4 v k (recL ((L.take k).map fun i => (i, rd ks i)))) ∧ Mod (fun _ => False) w3 wr) (fun _ i _ => L.length - (intOf i).toNat)
      case atStart => exact ⟨0, rfl, Nat.zero_le _, World.ownsRow_nil _ _ _ _, Mod.refl _ _⟩
      case round =>
        obtain ⟨k, rfl, hk, hown, hm⟩ := hrel
        have d5 := hm.cell c5 (fun h => h)
        by_cases hlt2 : (k : Int) < L.length
        · obtain ⟨x, hkr⟩ : ∃ q, L[k]? = some q := ⟨_, List.getElem?_eq_getElem (by omega)⟩
          obtain ⟨r, hmem⟩ := HLM.out x (List.mem_of_getElem? hkr)
          obtain ⟨i, hi⟩ := List.getElem?_of_mem hmem
          have hrd : rd ks x = r := by unfold rd; rw [lk_of_mem HR.out hmem]; rfl
          have hkl2 : k < L.length := by omega
          obtain ⟨X3, rfl, y0, _⟩ := (HE3.out.new hm) k hkl2
          have q0 := y0 (.int .i64 x) (by simp [hkr])
          rw [Nat.mul_one] at q0
          obtain ⟨X, rfl, p0, p1, p2, p3⟩ := recEl (heL.out.new hm) (Nat.le_refl _) hi
          have hil2 : i < ks.length := (List.getElem?_eq_some_iff.1 hi).1
          have hil : (i : Int) < ks.length := by omega
          have HFI := Lib.hid (fun n => refVFindAt x i r b base S most ks (wr.drewN n) ((R3.out.new hm).drewN n) HR.out hlen hi)
          have HTK := Lib.hid (show (L.take (k + 1)).map (fun i => (i, rd ks i)) = (L.take k).map (fun i => (i, rd ks i)) ++ [(x, r)] by rw [List.take_add_one, hkr, List.map_append]; simp [hrd])
          have HM := Lib.hid hm
          have hk1 : L.length - (k + 1) < L.length - k := by omega
          have HKL : Hid (k ≤ 1000) := by show _ ≤ _; omega
          clear hkr hmem hrd y0 hi
          go_wp2_with fail
          refine wp_region2 [(13, 4), (14, 2)] [41] (by kernel_rfl) (by kernel_rfl) ?_
          repeat (first | (refine reg_anyT (by rfl) (fun K hK => ?_); go_simp; refine hK _ _ ?_; clear hK K) | (refine reg_read (by rfl) (fun K hK => ?_); go_simp; refine hK _ _ ?_; clear hK K))
          refine reg_read (by rfl) (fun K hK => ?_); go_simp
          refine ⟨_, fun rn => rd_same (HFI.out rn), hK _ _ ?_⟩; clear hK K
          repeat (first | (refine reg_anyT (by rfl) (fun K hK => ?_); go_simp; refine hK _ _ ?_; clear hK K) | (refine reg_read (by rfl) (fun K hK => ?_); go_simp; refine hK _ _ ?_; clear hK K))
          refine reg_new (by rfl) (fun rn K hK => ?_); go_simp
          have ma := ((Mod.refl (fun _ => False) wr).drewN rn).alloc (.cells #[.int .i64 x, .int .i64 r.s, .int .i64 r.u, .int .i64 r.b] TMb)
          refine hK _ _ ⟨((Mod.refl (fun _ => False) (wr.drewN rn)).alloc (.cells #[.int .i64 x, .int .i64 r.s, .int .i64 r.u, .int .i64 r.b] TMb)).ex, ?_⟩; clear hK K
          refine reg_app (base := w3.heap.size) (by rfl) (by rfl) (.tmp 46) (.tmp 59) TMs TMb 4 rfl Try.underlying22 infoKn rfl (by decide) _ _ _ _ 1 [.int .i64 x, .int .i64 r.s, .int .i64 r.u, .int .i64 r.b] (Nat.le_trans HM.out.size ma.size) (owns_new hown.out ma) rfl rfl (sl_new (wr.drewN rn) _ _) (by simp [Value.oneCell']) (by decide) (by have := HKL.out; omega) ?_
          intro v1 w4 g1 g2 g3
          have G1 := Lib.hid g1
          have G2 := Lib.hid ((ma.mono (S' := fun i => u11.ownBlock = some i) (fun _ _ h => h.elim)).trans g2)
          clear g1 g2 g3 ma
          refine ⟨fun _ => trivial, ?_⟩
          repeat (first | (refine reg_anyT (by rfl) (fun K hK => ?_); go_simp; refine hK _ _ ?_; clear hK K) | (refine reg_read (by rfl) (fun K hK => ?_); go_simp; refine hK _ _ ?_; clear hK K))
          refine reg_nil (fun nd => ?_)
          have G3 := Lib.hid (HM.out.new (G2.out.drewN nd) (own_ge hown.out))
          have G4 := Lib.hid (owns_new G1.out ((Mod.refl (fun _ => False) w4).drewN nd))
          clear q0 p0 p1 p2 p3 d5 G1 G2
          go_wp2_with fail
          refine ⟨⟨k + 1, by go_num, by omega, ?_, G3.out⟩, by simp [intOf]; omega⟩
          show World.ownsRow _ _ _ _ _ _ _
          rw [HTK.out, recL_snoc]
          exact G4.out
        · have hkn : k = L.length := by omega
          have h1 := hown.out
          rw [hkn, List.take_length] at h1
          have O1 := Lib.hid h1
          have HM := Lib.hid hm
          have R5 := Lib.hid (R3.out.new hm)
          have e0 : wr.cell? ⟨b, 0, none⟩ = some (.int .i64 S.1) := R5.out.hd 0
          have e1 : wr.cell? ⟨b, 1, none⟩ = some (.int .i64 S.2.s) := R5.out.hd 1
          have e2 : wr.cell? ⟨b, 2, none⟩ = some (.int .i64 S.2.u) := R5.out.hd 2
          have e3 : wr.cell? ⟨b, 3, none⟩ = some (.int .i64 S.2.b) := R5.out.hd 3
          clear h1 hown hkn hm d5
          go_wp2_with (at_builtin; refine app1 (base := w3.heap.size) rfl (.tmp 61) (.tmp 66) TMs TMb 4 rfl Try.underlying22 infoKn rfl (by decide) _ _ _ _ 1 [.int .i64 S.1, .int .i64 S.2.s, .int .i64 S.2.u, .int .i64 S.2.b] (by have := HM.out.size; simp; omega) (O1.out.alloc _) rfl rfl (sl_new wr _ _) (by simp [Value.oneCell']) (by decide) (by omega) ?_; intro v' w' g1 g2 g3; have G1 := Lib.hid g1; have G2 := Lib.hid (((Mod.refl _ wr).alloc (.cells #[.int .i64 S.1, .int .i64 S.2.s, .int .i64 S.2.u, .int .i64 S.2.b] TMb)).trans g2); clear g1 g2 g3)
          go_ret
          refine ⟨⟨_, rfl, ?_⟩, M3.out.trans (HM.out.new G2.out (own_ge O1.out))⟩
          rw [recL_snoc]
          exact G1.out.mono M3.out.size
end Go.Proofs.Ytagiodagbfahpaa
