/- The reference of rarest: Set of one that is not known; no condition. -/
import Derived.Test.YtegmgflplhpacaaDoorRbD
namespace Go.Proofs.YtegmgflplhpacaaDoor
open Go Go.RowKit

set_option maxRecDepth 100000 in
set_option maxHeartbeats 4000000 in
theorem refRSetNew (id : Int) (s sg b base n : Nat) (most : Int) (ks : List (Int × Rp)) (f : Nat → Bool) (w : World) (h : RD w b base n most ks) (hs : RSet w s sg n f) (hlen : ks.length ≤ 999) (hr : Rising ks) (hbase : base ≤ w.heap.size) (hn : 1 ≤ n ∧ n ≤ 1024) (hp : 1 ≤ id ∧ id ≤ 65536) (hno : lkL ks id = none) (hroom : (ks.length : Int) < most) :
    Calls Tryd.prog 38 #[.pointer (some ⟨b, 0, none⟩), .int .i64 id, .pointer (some ⟨s, 0, none⟩)] w (SetR n f b base most ks id w) := by
  have HNO := Lib.hid hno
  clear hno
  obtain ⟨a0, cap0, c0, _, _, _, _, _, _, _⟩ := h.at
  obtain ⟨cs, d0, hsl⟩ := rset_sl hs
  have hnn : ((n : Int) != (n : Int)) = false := by simp
  have e1 := in_yes hp
  have H := Lib.hid h
  have HSL := Lib.hid hsl
  have D0 := Lib.hid d0
  have HR := Lib.hid hr
  have HN := Lib.hid hn
  have HBA := Lib.hid hbase
  clear h hs hsl hr hp hbase
  go_enter Tryd.func38, Tryd.ntmps38
  go_wp2_with fail
  refine (refId _ _).mono ?_; rw [e1]; rintro e w' ⟨rfl, rfl⟩
  clear e1
  go_upto_region 2 with fail
  go_quiet (fail)
  have md := (Mod.refl (fun _ => False) w).drewN nq
  have H1 := Lib.hid (H.out.new md)
  have HSL1 := Lib.hid (HSL.out.mod md (fun _ _ _ _ h => h))
  have M1 := Lib.hid md
  clear md c0 d0
  have d0 : (w.drewN nq).cell? ⟨s, 0, none⟩ = some (.slice (some ⟨sg, 0, none⟩) n cs) := D0.out
  generalize w.drewN nq = w1 at *
  have ma := (Mod.refl (fun _ => False) w1).alloc (.cells #[] 4)
  have d1 := ma.cell d0 (fun h => h)
  clear ma
  go_upto_region 5 with (at_builtin; refine appS (base := w1.heap.size) rfl (.tmp 32) (.tmp 36) TBl 4 1 rfl Tryd.underlying87 infoBool rfl (by decide) _ _ _ _ n (booL n f) (by simp) (owns_empty _ _ _ _ (Nat.le_refl _)) rfl rfl (HSL1.out.mod ((Mod.refl (fun _ => False) w1).alloc _) (fun _ _ _ _ h => h)) (booL_one _ _) (by decide) (by have := HN.out; omega) ?_; intro v1 w4 o1 n1; rw [Nat.zero_add, List.nil_append] at o1; obtain ⟨g, cp, rfl⟩ := own_some o1 HN.out.1; have O4 := Lib.hid o1; have N4 := Lib.hid ((((Mod.refl (fun i => w1.heap.size ≤ i) w1).alloc (.cells #[] 4))).trans n1); clear o1 n1)
  have m4 := N4.out.mono (S' := fun _ => False) (fun i hi (e : w1.heap.size ≤ i) => by omega)
  have H4 := Lib.hid (H1.out.new m4)
  have M4 := Lib.hid (M1.out.trans m4)
  have HG4 := Lib.hid (show w1.heap.size ≤ g ∧ g < w4.heap.size from O4.out.lt g rfl)
  have HGQ : Hid (∀ q ∈ ks, q.2.g ≠ g) := fun q hq => by have := (H1.out.sets q hq).lt q.2.g rfl; have := HG4.out; omega
  have HBW := Lib.hid (show base ≤ w1.heap.size by have := M1.out.size; have := HBA.out; omega)
  clear m4 d0 d1 hnn
  have HF := Lib.hid (refRFindNo id b base n most ks w4 H4.out HR.out (by omega) HNO.out)
  have hrm : decide (most ≤ (ks.length : Int)) = false := by simp; omega
  go_wp2_with fail
  refine HF.out.mono ?_; rintro e w' ⟨rfl, rfl⟩
  obtain ⟨a', cap', _, c1, c2, _, _, _, _, _⟩ := H4.out.at
  go_upto_region 9 with fail
  go_quiet (fail)
  have md := (Mod.refl (fun _ => False) w4).drewN nq
  have H5 := Lib.hid (H4.out.new md)
  have M5 := Lib.hid (M4.out.trans md)
  have O5 := Lib.hid (owns_new O4.out md)
  have HG5 := Lib.hid (show g < (w4.drewN nq).heap.size from HG4.out.2)
  have HNID : Hid (∀ q ∈ ks, q.1 ≠ id) := lk_none.1 HNO.out
  obtain ⟨k2, hk2⟩ : ∃ k2, k2 = putL ks id (⟨g, cp, f⟩ : Rp) := ⟨_, rfl⟩
  have HI2 : Hid (k2 = insS (id, (⟨g, cp, f⟩ : Rp)) ks) := by show _ = _; rw [hk2]; unfold putL; rw [del_of_none HNO.out]
  have HK2 := Lib.hid hk2
  have M1S := Lib.hid (show w.heap.size ≤ w1.heap.size from M1.out.size)
  clear md c1 c2 hrm hk2 HF H4 M4 O4 H1 M1 N4 HSL HSL1 H D0
  generalize w4.drewN nq = w3 at *
  go_upto_block 0 with fail
  go_cut [10] from 61 to 81 (fun v wx => ∃ j : Nat, v = .int .i64 j ∧ j ≤ ks.length ∧ Hid (k2 = ks.take j ++ (id, (⟨g, cp, f⟩ : Rp)) :: ks.drop j) ∧ Hid (Mod (fun _ => False) w3 wx))
  case first =>
    go_wp2_with fail
    go_loopw [10] (fun v wr => ∃ j : Nat, v = .int .i64 j ∧ j ≤ ks.length ∧ Hid (∀ (i : Nat) (q : Int × Rp), i < j → ks[i]? = some q → q.1 < id) ∧ Hid (Mod (fun _ => False) w3 wr)) (fun v _ => ks.length - (intOf v).toNat)
    case atStart => exact ⟨0, rfl, Nat.zero_le _, fun i q h => absurd h (Nat.not_lt_zero _), Mod.refl _ _⟩
    case round =>
      obtain ⟨j, rfl, hj, hlow, hm⟩ := hrel
      obtain ⟨a, cap, _, _, c2, he, _, _, _, _⟩ := (H5.out.new hm.out).at
      by_cases hlt : (j : Int) < ks.length
      · obtain ⟨⟨x, r⟩, hkr⟩ : ∃ q, ks[j]? = some q := ⟨_, List.getElem?_eq_getElem (by omega)⟩
        obtain ⟨X, rfl, p0, p1⟩ := hvEl he.out (Nat.le_refl _) hkr
        dsimp only at p0 p1
        by_cases e : x < id
        · have HL : Hid (∀ (i : Nat) (q : Int × Rp), i < j + 1 → ks[i]? = some q → q.1 < id) := by
            intro i q hi hq
            by_cases ej : i = j
            · subst ej
              rw [hkr] at hq
              cases hq
              exact e
            · exact hlow.out i q (by omega) hq
          have hjl : j < ks.length := by omega
          clear hkr
          go_wp2_with fail
          exact ⟨⟨j + 1, by go_num, by omega, HL, hm⟩, by simp [intOf]; omega⟩
        · have hP : k2 = ks.take j ++ (id, (⟨g, cp, f⟩ : Rp)) :: ks.drop j := by
            rw [HI2.out]
            refine ins_at _ ks j hlow.out hj fun q hq => ?_
            rw [hkr] at hq
            cases hq
            have := HNID.out (x, r) (List.mem_of_getElem? hkr)
            show id < x
            simp only at this
            omega
          have HP := Lib.hid hP
          have e' : decide (x < id) = false := by simpa using e
          have hjl : j < ks.length := by omega
          clear hkr hP
          go_wp2_with fail
          go_meet
          exact ⟨j, rfl, hj, HP, hm⟩
      · have hP : k2 = ks.take j ++ (id, (⟨g, cp, f⟩ : Rp)) :: ks.drop j := by
          rw [HI2.out]
          refine ins_at _ ks j hlow.out hj fun q hq => ?_
          have := (List.getElem?_eq_some_iff.1 hq).1
          omega
        have HP := Lib.hid hP
        have hlt' : decide ((j : Int) < ks.length) = false := by simpa using hlt
        have hlt2 : decide (j < ks.length) = false := by simp; omega
        clear hP
        go_wp2_with fail
        go_meet
        exact ⟨j, rfl, hj, HP, hm⟩
  case rest =>
    obtain ⟨j, rfl, hj, HP, hm⟩ := hcut
    have T4 := Lib.hid (H5.out.new hm.out)
    have M6 := Lib.hid (M5.out.trans hm.out)
    have O6 := Lib.hid (owns_new O5.out hm.out)
    have HG6 := Lib.hid (show g < wc.heap.size by have := HG5.out; have := hm.out.size; omega)
    clear hm H5 M5 O5 HG5
    generalize wc = w3' at *
    obtain ⟨a, cap, _, _, c3, he, hbk, ho, hcap, _⟩ := T4.out.at
    obtain ⟨B0, hB0⟩ : ∃ B, B = w3'.heap.size := ⟨_, rfl⟩
    have HB0 := Lib.hid hB0
    have hbl : b < B0 := by rw [hB0]; exact hbk.out.lt
    have hbl3 : b < w3'.heap.size := hbk.out.lt
    have HBB := Lib.hid (show base ≤ B0 by rw [hB0]; exact Nat.le_trans HBA.out M6.out.size)
    have TK := Lib.hid (hvL_takeN n ks j)
    have TD := Lib.hid (hvL_dropN n ks j)
    have hjc : (j : Int) ≤ cap := by omega
    have hjc2 : (ks.length : Int) ≤ cap := by omega
    have HCAP : Hid (a = none → ks = [] ∧ cap = 0) := by
      intro h
      subst h
      rcases ho.out.2 with ⟨h1, h2⟩ | ⟨g, c, cur, h, _⟩
      · simp only [Value.slice.injEq] at h1
        exact ⟨List.length_eq_zero_iff.1 h1.2.1, h1.2.2⟩
      · cases h
    clear hB0
    go_upto_region 14 with fail
    go_cut [11] from 82 to 89 (fun v wx => Hid (wx.ownsRow B0 THs 2 v j (hvL n (ks.take j))) ∧ Hid (Mod (fun i => B0 ≤ i) w3' wx))
    case first =>
      cases a with
      | some X =>
        go_wp2_with (at_builtin; refine appS (base := B0) rfl (.tmp 82) (.tmp 88) THl THs 2 rfl Tryd.underlying76 infoHs rfl (by decide) _ _ _ _ j (hvL n (ks.take j)) (by have := HB0.out; simp; omega) (owns_empty _ _ _ _ (Nat.le_of_eq HB0.out)) rfl rfl (by rw [TK.out]; exact (ho.out.sl.alloc _).head (by omega)) (hvL_one _ _) (by decide) (by omega) ?_; intro v1 w4 o1 n1; have O1 := Lib.hid o1; have N1 := Lib.hid ((((Mod.refl (fun i => B0 ≤ i) w3').alloc (.cells #[] THs))).trans n1); clear o1 n1)
        go_meet
        exact ⟨by simpa using O1, N1⟩
      | none =>
        obtain ⟨h1, h2⟩ := HCAP.out rfl
        have hj0 : j = 0 := by rw [h1] at hj; simpa using hj
        have HK0 := Lib.hid h1
        subst hj0
        subst h2
        clear h1
        go_wp2_with (at_builtin; refine appS (base := B0) rfl (.tmp 82) (.tmp 88) THl THs 2 rfl Tryd.underlying76 infoHs rfl (by decide) _ _ _ _ 0 [] (by have := HB0.out; simp; omega) (owns_empty _ _ _ _ (Nat.le_of_eq HB0.out)) rfl rfl (Sl.nil _ _) (by simp) (by decide) (by omega) ?_; intro v1 w4 o1 n1; have O1 := Lib.hid o1; have N1 := Lib.hid ((((Mod.refl (fun i => B0 ≤ i) w3').alloc (.cells #[] THs))).trans n1); clear o1 n1)
        go_meet
        refine ⟨?_, N1⟩
        show World.ownsRow _ _ _ _ _ _ _
        simpa [hvL] using O1.out
    case rest =>
      obtain ⟨O1, N1⟩ := hcut
      obtain ⟨a1, cap1, rfl, _, _, _⟩ := O1.out.els
      have hB4 : B0 ≤ wc.heap.size := by have := N1.out.size; have := HB0.out; omega
      go_upto_region 16 with (at_builtin; refine appS (base := B0) rfl (.tmp 90) (.tmp 94) THl THs 2 rfl Tryd.underlying76 infoHs rfl (by decide) _ _ _ _ 1 [.int .i64 id, .slice (some ⟨g, 0, none⟩) n cp] (by simp; omega) (owns_new O1.out ((Mod.refl (fun _ => False) wc).alloc _)) rfl rfl (sl_new wc _ _) (by simp [Value.oneCell']) (by decide) (by omega) ?_; intro v2 w5 o2 n2; have O2 := Lib.hid o2; have N2 := Lib.hid ((N1.out.alloc (.cells #[.int .i64 id, .slice (some ⟨g, 0, none⟩) n cp] THs)).trans n2); have hB5 : B0 ≤ w5.heap.size := (by have := N2.out.size; have := HB0.out; omega); have k3 := N2.out.cell c3 (by show ¬ B0 ≤ b; omega); clear o2 n2)
      have HK5 := Lib.hid (hbk.out.mod N2.out (by show ¬ B0 ≤ b; omega))
      have HSL5 := Lib.hid (ho.out.sl.mod N2.out (by
        intro x n c hv hx
        have := ho.out.blk x n c hv
        have := HB0.out
        omega))
      clear O1 N1 c3
      have fin : ∀ (w6 : World) (a3 : Option Addr) (cap3 : Nat), w6.ownsRow B0 THs 2 (.slice a3 k2.length cap3) k2.length (hvL n k2) → Mod (fun i => B0 ≤ i) w3' w6 → RD (w6.setCell ⟨b, 2, none⟩ (.slice a3 k2.length cap3)) b base n most k2 ∧ Mod (RDb w b ks) w (w6.setCell ⟨b, 2, none⟩ (.slice a3 k2.length cap3)) ∧ ∀ q, RDb (w6.setCell ⟨b, 2, none⟩ (.slice a3 k2.length cap3)) b k2 q → RDb w b ks q ∨ w.heap.size ≤ q := by
        intro w6 a3 cap3 o3 n3
        have hm6 := (Mod.refl (· = b) w6).set1 2 (.slice a3 k2.length cap3)
        have hlt := T4.out.lt
        have hB := HB0.out
        refine ⟨?_, ((M6.out.mono (S' := RDb w b ks) (fun _ _ h => h.elim)).trans (n3.mono (fun i hi (e : B0 ≤ i) => by omega))).trans (hm6.mono (fun i _ e => .inl e)), fun q hq => ?_⟩
        rotate_left
        · rcases hq with e | ⟨X', m, c, hx, e⟩ | ⟨q', hq', e⟩
          · exact .inl (.inl e)
          · have hc := ((hbk.out.mod n3 (by show ¬ B0 ≤ b; omega)).set 2 (.slice a3 k2.length cap3)).cell 2
            rw [hc] at hx
            simp at hx
            obtain ⟨rfl, _, _⟩ := hx
            have h4 := (o3.blk X' _ _ rfl).1
            exact .inr (by have := M6.out.size; omega)
          · rw [HK2.out] at hq'
            rcases mem_putO hq' with rfl | hq'
            · exact .inr (by have := HG4.out; have := M1S.out; simp only at e; omega)
            · exact .inl (.inr (.inr ⟨q', hq', e⟩))
        have h3 := T4.out.put (id := id) (g := g) (cp := cp) (f := f) (a := a3) (cap := cap3) (w2 := w6.setCell ⟨b, 2, none⟩ (.slice a3 k2.length cap3))
        rw [← HK2.out] at h3
        refine h3 ((hbk.out.mod n3 (by show ¬ B0 ≤ b; omega)).set 2 _) ((owns_modG (S := (· = b)) o3 hm6 (fun i hi e => by omega)).mono HBB.out) (fun X hX => ?_) (fun q hq => ?_) ?_ HGQ.out
        · subst hX
          have h4 := o3.blk X _ _ rfl
          refine ⟨by have := HG6.out; omega, fun q hq => ?_⟩
          have := (T4.out.sets q hq).lt q.2.g rfl
          omega
        · have h5 := (T4.out.sets q hq).lt q.2.g rfl
          refine owns_off (owns_apart (v := .slice (some ⟨q.2.g + w6.heap.size + 1, 0, none⟩) 0 0) (T4.out.sets q hq) (n3.mono fun i hi (e : B0 ≤ i) => by omega) (fun k h1 h2 => by simp [Value.ownBlock] at h1 h2; omega)) hm6 (fun e => by simp [Value.ownBlock] at e; omega)
        · have h5 := O6.out.lt g rfl
          refine owns_off (owns_apart (v := .slice (some ⟨g + w6.heap.size + 1, 0, none⟩) 0 0) (O6.out.mono (by have := HBW.out; omega)) (n3.mono fun i hi (e : B0 ≤ i) => by omega) (fun k h1 h2 => by simp [Value.ownBlock] at h1 h2; omega)) hm6 (fun e => by simp [Value.ownBlock] at e; have := HBW.out; omega)
      have FIN := Lib.hid fin
      clear fin
      cases a with
      | some X =>
        go_wp2_with (at_builtin; refine appS (base := B0) rfl (.tmp 97) (.tmp 103) THl THs 2 rfl Tryd.underlying76 infoHs rfl (by decide) _ _ _ _ (ks.length - j) (hvL n (ks.drop j)) hB5 O2.out rfl rfl (by rw [TD.out]; first | exact HSL5.out.tail (by omega) hcap | exact HSL5.out.tailN (by omega) hcap) (hvL_one _ _) (by decide) (by omega) ?_; intro v3 w6 o3 n3; obtain ⟨a3, cap3, rfl, _, _, _⟩ := o3.els; have O3 := Lib.hid o3; have N3 := Lib.hid (N2.out.trans n3); have k33 := N3.out.cell (hbk.out.cell 2) (by show ¬ B0 ≤ b; omega); have f33 := (HK5.out.mod n3 (by show ¬ B0 ≤ b; omega)).frozen 2; clear o3 n3 k3)
        all_goals (
          go_ret
          have hlenP : k2.length = j + 1 + (ks.length - j) := by rw [HP.out]; simp; omega
          have hr' : hvL n k2 = hvL n (ks.take j) ++ [.int .i64 id, .slice (some ⟨g, 0, none⟩) n cp] ++ hvL n (ks.drop j) := by
            rw [HP.out, hvL_append, hvL_cons, List.append_assoc]
          have h6 := O3.out
          rw [← hlenP, ← hr'] at h6
          have h7 := FIN.out _ _ _ h6 N3.out
          rw [hlenP] at h7
          exact ⟨rfl, g, cp, by rw [← HK2.out]; exact h7⟩)
      | none =>
        obtain ⟨h1, h2⟩ := HCAP.out rfl
        have hj0 : j = 0 := by rw [h1] at hj; simpa using hj
        subst hj0
        subst h2
        have HK0 := Lib.hid h1
        clear h1
        go_wp2_with (at_builtin; refine appS (base := B0) rfl (.tmp 97) (.tmp 103) THl THs 2 rfl Tryd.underlying76 infoHs rfl (by decide) _ _ _ _ 0 [] hB5 O2.out rfl rfl (Sl.nil _ _) (by simp) (by decide) (by omega) ?_; intro v3 w6 o3 n3; obtain ⟨a3, cap3, rfl, _, _, _⟩ := o3.els; have O3 := Lib.hid o3; have N3 := Lib.hid (N2.out.trans n3); have k33 := N3.out.cell (hbk.out.cell 2) (by show ¬ B0 ≤ b; omega); have f33 := (HK5.out.mod n3 (by show ¬ B0 ≤ b; omega)).frozen 2; clear o3 n3 k3)
        go_ret
        have hkk : k2 = [(id, (⟨g, cp, f⟩ : Rp))] := by rw [HP.out, HK0.out]; rfl
        have h6 := O3.out
        have h7 := FIN.out _ a3 cap3 (by rw [hkk]; simpa [hvL] using h6) N3.out
        rw [show k2.length = 1 by rw [hkk]; rfl] at h7
        exact ⟨rfl, g, cp, by rw [← HK2.out]; exact h7⟩
end Go.Proofs.YtegmgflplhpacaaDoor
