/- The reference of member: put; no condition. -/
import Derived.Test.YtagiodagbfahpaaSmB
import Derived.Test.YtagiodagbfahpaaMbT
import Derived.Deep.QuietTactic
import Derived.BigQuiet
namespace Go.Proofs.Ytagiodagbfahpaa
open Go Go.RowKit

set_option maxRecDepth 100000 in
set_option maxHeartbeats 4000000 in
theorem refVPut (id : Int) (N : Rc) (b base : Nat) (S : Int × Rc) (most : Int) (ks : List (Int × Rc)) (w : World) (h : RW w b base S most ks) (hr : Rising ks) (hbase : base ≤ w.heap.size) (hlen2 : ks.length ≤ 999) :
    Calls Try.prog 56 #[.pointer (some ⟨b, 0, none⟩), .agg #[.int .i64 id, .int .i64 N.s, .int .i64 N.u, .int .i64 N.b]] w fun e w' =>
      e = .returned (.tuple #[]) ∧ RW w' b base S most (putL ks id N) ∧ Mod (· = b) w w' := by
  obtain ⟨k2, hk2⟩ : ∃ k2, k2 = putL ks id N := ⟨_, rfl⟩
  rw [← hk2]
  have HK2 := Lib.hid hk2
  have HR := Lib.hid hr
  have H := Lib.hid h
  have HLN2 := Lib.hid hlen2
  have HBA := Lib.hid hbase
  have m1 := (Mod.refl (fun _ => False) w).alloc (.cells #[.int .i64 id, .int .i64 N.s, .int .i64 N.u, .int .i64 N.b] TMb)
  have B1 := Lib.hid (Blk.new w #[.int .i64 id, .int .i64 N.s, .int .i64 N.u, .int .i64 N.b] TMb)
  have M1 := Lib.hid m1
  have H1 := Lib.hid (H.out.new m1)
  clear h hr hlen2 hbase hk2 m1
  obtain ⟨B, hB⟩ : ∃ B, B = w.heap.size := ⟨_, rfl⟩
  have hbB : b < B := by have := H.out.lt; have := HBA.out; omega
  go_enter Try.func56, Try.ntmps56
  go_upto_region 1 with fail
  generalize w.alloc (.cells #[.int .i64 id, .int .i64 N.s, .int .i64 N.u, .int .i64 N.b] TMb) = w1 at *
  rw [← hB] at B1 ⊢
  have HB := Lib.hid hB
  clear hB
  have x0 := B1.out.cell 0
  go_wp2_with fail
  refine (refVFind id _ _ _ _ _ _ H1.out (by have := HLN2.out; omega)).mono ?_; rintro e w' ⟨⟨v, rfl, hv⟩, rfl⟩
  have HV := Lib.hid hv
  clear hv x0
  go_upto_if 12 with fail
  go_cut [3] from 11 to 15 (fun p wx => p = .pointer (some ⟨B, 0, none⟩) ∧ Hid (Blk wx B #[.int .i64 id, .int .i64 N.s, .int .i64 N.u, .int .i64 N.b] TMb) ∧ Hid (RW wx b base S most (delL ks id)) ∧ Hid (Mod (· = b) w wx))
  case first =>
    rcases HV.out with ⟨rfl, hn⟩ | ⟨i, r, rfl, hi⟩
    · have HD := Lib.hid (del_of_none hn)
      clear hn
      go_wp2_with fail
      go_meet
      refine ⟨rfl, B1, ?_, M1.out.mono (fun _ _ h => h.elim)⟩
      show RW _ _ _ _ _ _
      rw [HD.out]
      exact H1.out
    · have HD := Lib.hid (del_at HR.out hi)
      have hil := (List.getElem?_eq_some_iff.1 hi).1
      have HRC := Lib.hid (refVCut i b base S most ks w1 H1.out (by have := HLN2.out; omega) hil)
      clear hi hil
      go_wp2_with fail
      refine HRC.out.mono ?_; rintro e w3 ⟨rfl, t3, m3⟩
      go_wp2_with fail
      go_meet
      refine ⟨rfl, B1.out.mod m3 (by show ¬ B = b; omega), ?_, (M1.out.mono (fun _ _ h => h.elim)).trans m3⟩
      show RW _ _ _ _ _ _
      rw [HD.out]
      exact t3.base H.out.lt (by have := M1.out.size; have := HBA.out; omega)
  case rest =>
    obtain ⟨rfl, X3, T3, M3⟩ := hcut
    generalize wc = w3 at *
    obtain ⟨k1, hk1⟩ : ∃ k1, k1 = delL ks id := ⟨_, rfl⟩
    rw [← hk1] at T3
    have HI2 : Hid (k2 = insS (id, N) k1) := by show _ = _; rw [HK2.out, hk1]; rfl
    have HNO : Hid (∀ q ∈ k1, q.1 ≠ id) := by
      intro q hq
      rw [hk1] at hq
      simpa [delL] using (List.mem_filter.1 hq).2
    have HL1 : Hid (k1.length ≤ 999) := by show _ ≤ _; rw [hk1]; exact Nat.le_trans (List.length_filter_le _ _) HLN2.out
    clear hk1 HV HK2 HR HLN2 H1 B1 M1
    go_upto_block 0 with fail
    go_cut [5] from 16 to 37 (fun v wx => ∃ j : Nat, v = .int .i64 j ∧ j ≤ k1.length ∧ Hid (k2 = k1.take j ++ (id, N) :: k1.drop j) ∧ Hid (Mod (fun _ => False) w3 wx))
    case first =>
      go_wp2_with fail
      go_loopw [5] (fun v wr => ∃ j : Nat, v = .int .i64 j ∧ j ≤ k1.length ∧ Hid (∀ (i : Nat) (q : Int × Rc), i < j → k1[i]? = some q → q.1 < id) ∧ Hid (Mod (fun _ => False) w3 wr)) (fun v _ => k1.length - (intOf v).toNat)
      case atStart => exact ⟨0, rfl, Nat.zero_le _, fun i q h => absurd h (Nat.not_lt_zero _), Mod.refl _ _⟩
      case round =>
        obtain ⟨j, rfl, hj, hlow, hm⟩ := hrel
        obtain ⟨a, cap, _, c3, _, he, _, _, _⟩ := (T3.out.new hm.out).at
        have hx := X3.out.mod hm.out (fun h => h)
        have x0 := hx.cell 0
        clear hx
        by_cases hlt : (j : Int) < k1.length
        · obtain ⟨⟨x, r⟩, hkr⟩ : ∃ q, k1[j]? = some q := ⟨_, List.getElem?_eq_getElem (by omega)⟩
          obtain ⟨X, rfl, p0, p1, p2, p3⟩ := recEl he.out (Nat.le_refl _) hkr
          by_cases e : x < id
          · have HL : Hid (∀ (i : Nat) (q : Int × Rc), i < j + 1 → k1[i]? = some q → q.1 < id) := by
              intro i q hi hq
              by_cases ej : i = j
              · subst ej
                rw [hkr] at hq
                cases hq
                exact e
              · exact hlow.out i q (by omega) hq
            have hl9 : k1.length ≤ 999 := HL1.out
            have hjl : j < k1.length := by omega
            clear hkr
            go_wp2_with fail
            go_quiet (fail)
            go_wp2_with fail
            exact ⟨⟨j + 1, by go_num, by omega, HL, hm.out.drewN _⟩, by simp [intOf]; omega⟩
          · have hP : k2 = k1.take j ++ (id, N) :: k1.drop j := by
              rw [HI2.out]
              refine ins_at _ k1 j hlow.out hj fun q hq => ?_
              rw [hkr] at hq
              cases hq
              have := HNO.out (x, r) (List.mem_of_getElem? hkr)
              show id < x
              simp only at this
              omega
            have HP := Lib.hid hP
            have e' : decide (x < id) = false := by simpa using e
            have hjl : j < k1.length := by omega
            clear hkr hP
            go_wp2_with fail
            go_quiet (fail)
            go_wp2_with fail
            go_meet
            exact ⟨j, rfl, hj, HP, hm.out.drewN _⟩
        · have hP : k2 = k1.take j ++ (id, N) :: k1.drop j := by
            rw [HI2.out]
            refine ins_at _ k1 j hlow.out hj fun q hq => ?_
            have := (List.getElem?_eq_some_iff.1 hq).1
            omega
          have HP := Lib.hid hP
          have hlt' : decide ((j : Int) < k1.length) = false := by simpa using hlt
          have hlt2 : decide (j < k1.length) = false := by simp; omega
          clear hP
          go_wp2_with fail
          go_quiet (fail)
          go_wp2_with fail
          go_meet
          exact ⟨j, rfl, hj, HP, hm.out.drewN _⟩
    case rest =>
      obtain ⟨j, rfl, hj, HP, hm⟩ := hcut
      have X4 := Lib.hid (X3.out.mod hm.out (fun h => h))
      have T4 := Lib.hid (T3.out.new hm.out)
      have M4 := Lib.hid (M3.out.trans (hm.out.mono (fun _ _ h => h.elim)))
      clear hm X3 T3 M3
      generalize wc = w3 at *
      obtain ⟨a, cap, _, c3, _, he, hbk, ho, hcap⟩ := T4.out.at
      obtain ⟨B0, hB0⟩ : ∃ B, B = w3.heap.size := ⟨_, rfl⟩
      have HB0 := Lib.hid hB0
      have hbl : b < B0 := by rw [hB0]; exact hbk.out.lt
      have hbl3 : b < w3.heap.size := hbk.out.lt
      have hBl : B < B0 := by rw [hB0]; exact X4.out.lt
      have HBB := Lib.hid (show base ≤ B0 by rw [hB0]; exact Nat.le_trans HBA.out M4.out.size)
      have TK := Lib.hid (recL_takeN k1 j)
      have TD := Lib.hid (recL_dropN k1 j)
      have hjc : (j : Int) ≤ cap := by omega
      have hjc2 : (k1.length : Int) ≤ cap := by omega
      have hl9 : k1.length ≤ 999 := HL1.out
      have HCAP : Hid (a = none → k1 = [] ∧ cap = 0) := by
        intro h
        subst h
        rcases ho.out.2 with ⟨h1, h2⟩ | ⟨g, c, cur, h, _⟩
        · simp only [Value.slice.injEq] at h1
          exact ⟨List.length_eq_zero_iff.1 h1.2.1, h1.2.2⟩
        · cases h
      clear hB0
      go_upto_region 7 with fail
      go_cut [6] from 38 to 45 (fun v wx => Hid (wx.ownsRow B0 TMb 4 v j (recL (k1.take j))) ∧ Hid (Mod (fun i => B0 ≤ i) w3 wx))
      case first =>
        cases a with
        | some X =>
          go_wp2_with (at_builtin; refine appS (base := B0) rfl (.tmp 38) (.tmp 44) TMs TMb 4 rfl Try.underlying22 infoKn rfl (by decide) _ _ _ _ j (recL (k1.take j)) (by have := HB0.out; simp; omega) (owns_empty _ _ _ _ (Nat.le_of_eq HB0.out)) rfl rfl (by rw [TK.out]; exact (ho.out.sl.alloc _).head (by omega)) (recL_one _) (by decide) (by omega) ?_; intro v1 w4 o1 n1; have O1 := Lib.hid o1; have N1 := Lib.hid ((((Mod.refl (fun i => B0 ≤ i) w3).alloc (.cells #[] TMb))).trans n1); clear o1 n1)
          go_meet
          exact ⟨by simpa using O1, N1⟩
        | none =>
          obtain ⟨h1, h2⟩ := HCAP.out rfl
          have hj0 : j = 0 := by rw [h1] at hj; simpa using hj
          have HK0 := Lib.hid h1
          subst hj0
          subst h2
          clear h1
          go_wp2_with (at_builtin; refine appS (base := B0) rfl (.tmp 38) (.tmp 44) TMs TMb 4 rfl Try.underlying22 infoKn rfl (by decide) _ _ _ _ 0 [] (by have := HB0.out; simp; omega) (owns_empty _ _ _ _ (Nat.le_of_eq HB0.out)) rfl rfl (Sl.nil _ _) (by simp) (by decide) (by omega) ?_; intro v1 w4 o1 n1; have O1 := Lib.hid o1; have N1 := Lib.hid ((((Mod.refl (fun i => B0 ≤ i) w3).alloc (.cells #[] TMb))).trans n1); clear o1 n1)
          go_meet
          refine ⟨?_, N1⟩
          show World.ownsRow _ _ _ _ _ _ _
          simpa [recL] using O1.out
      case rest =>
        obtain ⟨O1, N1⟩ := hcut
        obtain ⟨a1, cap1, rfl, _, _, _⟩ := O1.out.els
        have hB4 : B0 ≤ wc.heap.size := by have := N1.out.size; have := HB0.out; omega
        have HX4 := X4.out.mod N1.out (by show ¬ B0 ≤ B; omega)
        have x0 := HX4.cell 0; have x1 := HX4.cell 1; have x2 := HX4.cell 2; have x3 := HX4.cell 3
        clear HX4
        go_upto_region 9 with (at_builtin; refine appS (base := B0) rfl (.tmp 46) (.tmp 48) TMs TMb 4 rfl Try.underlying22 infoKn rfl (by decide) _ _ _ _ 1 [.int .i64 id, .int .i64 N.s, .int .i64 N.u, .int .i64 N.b] (by simp; omega) (owns_new O1.out ((Mod.refl (fun _ => False) wc).alloc _)) rfl rfl (sl_new wc _ _) (by simp [Value.oneCell']) (by decide) (by omega) ?_; intro v2 w5 o2 n2; have O2 := Lib.hid o2; have N2 := Lib.hid ((N1.out.alloc (.cells #[.int .i64 id, .int .i64 N.s, .int .i64 N.u, .int .i64 N.b] TMb)).trans n2); have hB5 : B0 ≤ w5.heap.size := (by have := N2.out.size; have := HB0.out; omega); have k3 := N2.out.cell c3 (by show ¬ B0 ≤ b; omega); clear o2 n2)
        have HX5 := Lib.hid (X4.out.mod N2.out (by show ¬ B0 ≤ B; omega))
        have HK5 := Lib.hid (hbk.out.mod N2.out (by show ¬ B0 ≤ b; omega))
        have HSL := Lib.hid (ho.out.sl.mod N2.out (by
          intro x n c hv hx
          have := ho.out.blk x n c hv
          have := HB0.out
          omega))
        clear x0 x1 x2 x3 O1 N1 c3
        cases a with
        | some X =>
          go_wp2_with (at_builtin; refine appS (base := B0) rfl (.tmp 51) (.tmp 57) TMs TMb 4 rfl Try.underlying22 infoKn rfl (by decide) _ _ _ _ (k1.length - j) (recL (k1.drop j)) hB5 O2.out rfl rfl (by rw [TD.out]; first | exact HSL.out.tail (by omega) hcap | exact HSL.out.tailN (by omega) hcap) (recL_one _) (by decide) (by omega) ?_; intro v3 w6 o3 n3; obtain ⟨a3, cap3, rfl, _, _, _⟩ := o3.els; have O3 := Lib.hid o3; have N3 := Lib.hid (N2.out.trans n3); have k33 := N3.out.cell (hbk.out.cell 5) (by show ¬ B0 ≤ b; omega); have f33 := (HK5.out.mod n3 (by show ¬ B0 ≤ b; omega)).frozen 5; have HK6 := Lib.hid (HK5.out.mod n3 (by show ¬ B0 ≤ b; omega)); clear o3 n3 k3)
          all_goals (
            go_end0
            have hlenP : k2.length = j + 1 + (k1.length - j) := by rw [HP.out]; simp; omega
            refine ⟨rfl, ⟨H.out.lt, a3, cap3, ?_, ?_⟩, ?_⟩
            · rw [hlenP]
              exact HK6.out.set 5 (.slice a3 (j + 1 + (k1.length - j)) cap3)
            · have hr : recL k2 = recL (k1.take j) ++ [.int .i64 id, .int .i64 N.s, .int .i64 N.u, .int .i64 N.b] ++ recL (k1.drop j) := by
                rw [HP.out, recL_append, recL_cons, List.append_assoc]
              rw [hlenP, hr]
              exact owns_modG (S := (· = b)) (O3.out.mono HBB.out) ((Mod.refl _ w6).set1 5 _) (fun i hi e => by have := H.out.lt; omega)
            · exact (M4.out.trans (N3.out.mono (S' := (· = b)) (fun i hi (h : B0 ≤ i) => by have := HB0.out; omega))).set1 5 _)
        | none =>
          obtain ⟨h1, h2⟩ := HCAP.out rfl
          have hj0 : j = 0 := by rw [h1] at hj; simpa using hj
          subst hj0
          subst h2
          have HK0 := Lib.hid h1
          clear h1
          go_wp2_with (at_builtin; refine appS (base := B0) rfl (.tmp 51) (.tmp 57) TMs TMb 4 rfl Try.underlying22 infoKn rfl (by decide) _ _ _ _ 0 [] hB5 O2.out rfl rfl (Sl.nil _ _) (by simp) (by decide) (by omega) ?_; intro v3 w6 o3 n3; obtain ⟨a3, cap3, rfl, _, _, _⟩ := o3.els; have O3 := Lib.hid o3; have N3 := Lib.hid (N2.out.trans n3); have k33 := N3.out.cell (hbk.out.cell 5) (by show ¬ B0 ≤ b; omega); have f33 := (HK5.out.mod n3 (by show ¬ B0 ≤ b; omega)).frozen 5; have HK6 := Lib.hid (HK5.out.mod n3 (by show ¬ B0 ≤ b; omega)); clear o3 n3 k3)
          go_end0
          have hkk : k2 = [(id, N)] := by rw [HP.out, HK0.out]; rfl
          refine ⟨rfl, ⟨H.out.lt, a3, cap3, ?_, ?_⟩, ?_⟩
          · rw [hkk]
            exact HK6.out.set 5 (.slice a3 1 cap3)
          · rw [hkk]
            have := owns_modG (S := (· = b)) (O3.out.mono HBB.out) ((Mod.refl _ w6).set1 5 (.slice a3 1 cap3)) (fun i hi e => by have := H.out.lt; omega)
            simpa [recL] using this
          · exact (M4.out.trans (N3.out.mono (S' := (· = b)) (fun i hi (h : B0 ≤ i) => by have := HB0.out; omega))).set1 5 _
end Go.Proofs.Ytagiodagbfahpaa
