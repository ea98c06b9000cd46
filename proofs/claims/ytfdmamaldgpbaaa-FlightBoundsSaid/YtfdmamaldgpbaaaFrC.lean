/- The reference of flight: Ask; no condition. -/
import Derived.Test.YtfdmamaldgpbaaaFrB
namespace Go.Proofs.Ytfdmamaldgpbaaa
open Go Go.RowKit

/-- Where a piece is put in. -/
theorem ins_at {α : Type} (x : Int × α) : ∀ (ks : List (Int × α)) (k : Nat), (∀ (j : Nat) (q : Int × α), j < k → ks[j]? = some q → q.1 < x.1) → k ≤ ks.length → (∀ q, ks[k]? = some q → x.1 < q.1) → insS x ks = ks.take k ++ x :: ks.drop k
  | [], k, _, hk, _ => by simp at hk; subst hk; rfl
  | y :: t, 0, _, _, h2 => by
    have := h2 y rfl
    unfold insS
    rw [if_pos this]
    rfl
  | y :: t, k + 1, h1, hk, h2 => by
    have := h1 0 y (by omega) rfl
    unfold insS
    rw [if_neg (by omega), ins_at x t k (fun j q hj hq => h1 (j + 1) q (by omega) (by simpa using hq)) (by simpa using hk) (fun q hq => h2 q (by simpa using hq))]
    rfl
theorem rqL_append (a b : List (Int × Rq)) : rqL (a ++ b) = rqL a ++ rqL b := List.flatMap_append
theorem rqL_len : ∀ ks : List (Int × Rq), (rqL ks).length = ks.length * 3
  | [] => rfl
  | q :: t => by
    show (rqC q ++ rqL t).length = _
    rw [List.length_append, rqL_len t]
    simp [rqC]; omega
theorem rqL_takeN : ∀ (ks : List (Int × Rq)) (k : Nat), rqL (ks.take k) = (rqL ks).take (k * 3)
  | [], k => by simp [rqL]
  | q :: t, 0 => by simp [rqL]
  | q :: t, k + 1 => by
    show rqC q ++ rqL (t.take k) = (rqC q ++ rqL t).take ((k + 1) * 3)
    have : (rqC q).length = 3 := rfl
    rw [List.take_append, this, List.take_of_length_le (l := rqC q) (by omega), show (k + 1) * 3 - 3 = k * 3 by omega, rqL_takeN t k]
theorem rqL_dropN : ∀ (ks : List (Int × Rq)) (k : Nat), rqL (ks.drop k) = (rqL ks).drop (k * 3)
  | [], k => by simp [rqL]
  | q :: t, 0 => by simp [rqL]
  | q :: t, k + 1 => by
    show rqL (t.drop k) = (rqC q ++ rqL t).drop ((k + 1) * 3)
    have : (rqC q).length = 3 := rfl
    rw [List.drop_append, this, List.drop_eq_nil_of_le (show (rqC q).length ≤ (k + 1) * 3 by rw [this]; omega), show (k + 1) * 3 - 3 = k * 3 by omega, rqL_dropN t k]
    rfl
theorem rq_one (x : Int) (r : Rq) : rqL [(x, r)] = [.int .i64 r.p, .int .i64 x, .int .i64 r.t] := rfl

theorem rqL_one (ks : List (Int × Rq)) : ∀ u ∈ rqL ks, u.oneCell' = true := by
  intro u hu
  obtain ⟨q, _, hq⟩ := List.mem_flatMap.1 hu
  simp only [rqC, List.mem_cons, List.not_mem_nil, or_false] at hq
  rcases hq with rfl | rfl | rfl <;> rfl
set_option maxRecDepth 100000 in
set_option maxHeartbeats 2000000 in
theorem refAsk0 (p k t : Int) (b base : Nat) (most each pat : Int) (ks : List (Int × Rq)) (w : World) (h : RT w b base most each pat ks) (hlen : ks.length ≤ 1000) (hr : Rising ks) (hbase : base ≤ w.heap.size)
    (hin : 0 ≤ p ∧ p ≤ 65536 ∧ 0 ≤ k ∧ k ≤ 1023 ∧ 0 ≤ t ∧ t ≤ 1099511627776) (hno : lkL ks k = none) (h1 : ¬ most ≤ (ks.length : Int)) (h2 : ¬ each ≤ (many ks p : Int)) :
    Calls Try.prog 24 #[.pointer (some ⟨b, 0, none⟩), .int .i64 p, .int .i64 k, .int .i64 t] w fun e w' => e = .returned (.int .i64 0) ∧ RT w' b base most each pat (putL ks k ⟨p, t⟩) ∧ Mod (· = b) w w' := by
  obtain ⟨i1, i2, i3, i4, i5, i6⟩ := hin
  have e3 : (decide (0 ≤ t) && decide (t ≤ 1099511627776)) = true := by simp [i5, i6]
  have g1 : ¬ p < 0 := by omega
  have g2 : ¬ 65536 < p := by omega
  have g3 : ¬ k < 0 := by omega
  have g4 : ¬ 1023 < k := by omega
  have H := Lib.hid h
  have HR := Lib.hid hr
  have HN := Lib.hid hno
  clear h hr hno i1 i2 i3 i4 i5 i6
  go_enter Try.func24, Try.ntmps24
  go_wp2_with fail
  refine (refMoment _ _).mono ?_; rw [e3]; rintro e w' ⟨rfl, rfl⟩
  go_wp2_with fail
  refine (refOf _ _ _ _ _ _ _ _ H.out (by omega) HR.out).mono ?_; rw [HN.out, show rqAt ks k = rq0 by unfold rqAt; rw [HN.out]; rfl]; rintro e w1 ⟨rfl, m1⟩
  clear g1 g2 g3 g4 e3
  go_wp2_with fail
  have m2 : Mod (fun _ => False) w (w1.alloc (.cells #[.int .i64 0, .int .i64 0, .int .i64 0] TRq)) := m1.alloc _
  have H2 := Lib.hid (H.out.new m2)
  have M2 := Lib.hid m2
  generalize w1.alloc (.cells #[.int .i64 0, .int .i64 0, .int .i64 0] TRq) = w2 at *
  obtain ⟨a, cap, c0, c1, _, c3, f3, he, hb, ho⟩ := H2.out.at
  clear m1 m2
  go_wp2_with fail
  refine wp_region2 [] [17] (by kernel_rfl) (by kernel_rfl) ?_
  repeat (first | (refine reg_anyT (by rfl) (fun K hK => ?_); go_simp; refine hK _ _ ?_; clear hK K) | (refine reg_read (by rfl) (fun K hK => ?_); go_simp; refine hK _ _ ?_; clear hK K))
  refine reg_read (by rfl) (fun K hK => ?_); go_simp
  refine ⟨_, fun rn => rd_same (refMany p _ _ _ _ _ _ _ (H2.out.drewN rn) (by omega)), hK _ _ ?_⟩; clear hK K
  repeat (first | (refine reg_anyT (by rfl) (fun K hK => ?_); go_simp; refine hK _ _ ?_; clear hK K) | (refine reg_read (by rfl) (fun K hK => ?_); go_simp; refine hK _ _ ?_; clear hK K))
  refine reg_nil (fun nd => ?_)
  have H3 := Lib.hid (H2.out.drewN nd)
  have M3 := Lib.hid (M2.out.drewN nd)
  have E3 := Lib.hid (show Els (w2.drewN nd) a 3 ks.length (rqL ks) from he.out.new ((Mod.refl _ w2).drewN nd))
  have B3 := Lib.hid (hb.out.drewN nd)
  have O3 := Lib.hid (show (w2.drewN nd).ownsRow base TRq 3 (.slice a ks.length cap) ks.length (rqL ks) from owns_new ho.out ((Mod.refl _ w2).drewN nd))
  have c3' : (w2.drewN nd).cell? ⟨b, 3, none⟩ = some (.slice a ks.length cap) := c3
  have f3' : (w2.drewN nd).frozen? ⟨b, 3, none⟩ = false := f3
  generalize w2.drewN nd = w3 at *
  clear H2 M2 he hb ho c0 c1 c3 f3
  have hbl : b < w3.heap.size := B3.out.lt
  have hcap : ks.length ≤ cap := by
    obtain ⟨a', cap', hv, h, _⟩ := O3.out.els
    cases hv
    exact h
  go_wp2_with fail
  clear h1 h2
  go_loopw [12] (fun v wr => ∃ j : Nat, v = .int .i64 j ∧ j ≤ ks.length ∧ Hid (∀ (i : Nat) (q : Int × Rq), i < j → ks[i]? = some q → q.1 < k) ∧ wr = w3) (fun v _ => ks.length - (intOf v).toNat)
  case atStart => exact ⟨0, rfl, Nat.zero_le _, fun i q h => absurd h (Nat.not_lt_zero _), rfl⟩
  case round =>
    obtain ⟨j, rfl, hj, hlow, rfl⟩ := hrel
    by_cases hlt : (j : Int) < ks.length
    · obtain ⟨⟨x, r⟩, hkr⟩ : ∃ q, ks[j]? = some q := ⟨_, List.getElem?_eq_getElem (by omega)⟩
      obtain ⟨X, rfl, p0, p1, p2⟩ := rqEl E3.out (Nat.le_refl _) hkr
      by_cases e : x < k
      · have HL : Hid (∀ (i : Nat) (q : Int × Rq), i < j + 1 → ks[i]? = some q → q.1 < k) := by
          intro i q hi hq
          by_cases ej : i = j
          · subst ej
            rw [hkr] at hq
            cases hq
            exact e
          · exact hlow.out i q (by omega) hq
        clear hkr
        go_wp2_with fail
        exact ⟨⟨j + 1, by go_num, by omega, HL, by first | trivial | rfl⟩, by simp [intOf]; omega⟩
      · have hP : putL ks k ⟨p, t⟩ = ks.take j ++ (k, ⟨p, t⟩) :: ks.drop j := by
          unfold putL
          rw [del_of_none HN.out]
          refine ins_at _ ks j hlow.out hj fun q hq => ?_
          rw [hkr] at hq
          cases hq
          have := lk_none.1 HN.out (x, r) (List.mem_of_getElem? hkr)
          show k < x
          simp only at this
          omega
        have HP := Lib.hid hP
        clear hkr hP
        have hjc : (j : Int) ≤ cap := by omega
        have hjc2 : (ks.length : Int) ≤ cap := by omega
        obtain ⟨B0, hB0⟩ : ∃ B, B = wr.heap.size := ⟨_, rfl⟩
        have HX : Hid (∀ x n c, Value.slice (some X) ks.length cap = .slice (some x) n c → ¬ B0 ≤ x.block) := by
          intro x n c hv
          have := O3.out.blk x n c hv
          omega
        have hbb : base ≤ B0 := by rw [hB0]; exact Nat.le_trans hbase M3.out.size
        have hbl0 : b < B0 := by rw [hB0]; exact hbl
        have HB0 := Lib.hid hB0
        clear hB0
        have TK := Lib.hid (rqL_takeN ks j)
        have TD := Lib.hid (rqL_dropN ks j)
        go_wp2_with (first
          | (at_builtin; refine appS (base := B0) rfl (.tmp 82) (.tmp 88) 36 TRq 3 rfl Try.underlying36 infoRq rfl (by decide) _ _ _ _ j (rqL (ks.take j)) (by have := HB0.out; simp; omega) (owns_empty _ _ _ _ (Nat.le_of_eq HB0.out)) rfl rfl (by rw [TK.out]; exact (O3.out.sl.alloc _).head (by omega)) (rqL_one _) (by decide) (by omega) ?_; intro v1 w4 o1 n1
             have O1 := Lib.hid o1
             have N1 := Lib.hid ((((Mod.refl (fun i => B0 ≤ i) wr).alloc (.cells #[] TRq))).trans n1)
             have hB4 : B0 ≤ w4.heap.size := by have := N1.out.size; have := HB0.out; omega
             clear o1 n1)
          | (at_builtin; refine appS (base := B0) rfl (.tmp 90) (.tmp 95) 36 TRq 3 rfl Try.underlying36 infoRq rfl (by decide) _ _ _ _ 1 [.int .i64 p, .int .i64 k, .int .i64 t] (by simp; omega) (owns_new O1.out ((Mod.refl (fun _ => False) w4).alloc _)) rfl rfl (sl_new w4 _ _) (by simp [Value.oneCell']) (by decide) (by omega) ?_; intro v2 w5 o2 n2
             have O2 := Lib.hid o2
             have N2 := Lib.hid ((N1.out.alloc (.cells #[.int .i64 p, .int .i64 k, .int .i64 t] TRq)).trans n2)
             have hB5 : B0 ≤ w5.heap.size := by have := N2.out.size; have := HB0.out; omega
             have k3 := N2.out.cell c3' (by show ¬ B0 ≤ b; omega)
             clear o2 n2)
          | (at_builtin; refine appS (base := B0) rfl (.tmp 98) (.tmp 104) 36 TRq 3 rfl Try.underlying36 infoRq rfl (by decide) _ _ _ _ (ks.length - j) (rqL (ks.drop j)) hB5 O2.out rfl rfl (by rw [TD.out]; first | exact (O3.out.sl.mod N2.out (HX.out)).tail (by omega) hcap | exact (O3.out.sl.mod N2.out (HX.out)).tailN (by omega) hcap) (rqL_one _) (by decide) (by omega) ?_; intro v3 w6 o3 n3
             obtain ⟨a3, cap3, rfl, _, _, _⟩ := o3.els
             have O3' := Lib.hid o3
             have N3 := Lib.hid (N2.out.trans n3)
             have k33 := N3.out.cell c3' (by show ¬ B0 ≤ b; omega)
             have f33 : w6.frozen? ⟨b, 3, none⟩ = false := by rw [N3.out.frozen hbl (by show ¬ B0 ≤ b; omega)]; exact f3'
             clear o3 n3 k3))
        all_goals (
          go_ret
          have hlenP : (putL ks k ⟨p, t⟩).length = j + 1 + (ks.length - j) := by rw [HP.out]; simp; omega
          refine ⟨rfl, ⟨H3.out.lt, a3, cap3, ?_, ?_⟩, ?_⟩
          · have := (B3.out.mod N3.out (by show ¬ B0 ≤ b; omega)).set 3 (.slice a3 (j + 1 + (ks.length - j)) cap3)
            rw [hlenP]
            exact this
          · have hr : rqL (putL ks k ⟨p, t⟩) = rqL (ks.take j) ++ [.int .i64 p, .int .i64 k, .int .i64 t] ++ rqL (ks.drop j) := by
              rw [HP.out, rqL_append, show (k, (⟨p, t⟩ : Rq)) :: ks.drop j = [(k, ⟨p, t⟩)] ++ ks.drop j from rfl, rqL_append, rq_one, ← List.append_assoc]
            have h1 : w6.ownsRow base TRq 3 (.slice a3 (putL ks k ⟨p, t⟩).length cap3) (putL ks k ⟨p, t⟩).length (rqL (putL ks k ⟨p, t⟩)) := by
              rw [hr, hlenP]
              simpa using O3'.out.mono hbb
            exact owns_mod (S := (· = b)) h1 ((Mod.refl _ w6).set1 3 _) (fun i hi e => by have := H3.out.lt; omega)
          · exact ((M3.out.mono (fun _ _ h => h.elim)).trans (N3.out.mono (S' := (· = b)) (fun i hi (h : B0 ≤ i) => by have := HB0.out; omega))).set1 3 _)
    · have hjn : j = ks.length := by omega
      have hP : putL ks k ⟨p, t⟩ = ks.take j ++ (k, ⟨p, t⟩) :: ks.drop j := by
        unfold putL
        rw [del_of_none HN.out]
        refine ins_at _ ks j hlow.out hj fun q hq => ?_
        have := (List.getElem?_eq_some_iff.1 hq).1
        omega
      have HP := Lib.hid hP
      clear hP hjn
      cases a with
      | some X =>
        have hjc : (j : Int) ≤ cap := by omega
        have hjc2 : (ks.length : Int) ≤ cap := by omega
        obtain ⟨B0, hB0⟩ : ∃ B, B = wr.heap.size := ⟨_, rfl⟩
        have HX : Hid (∀ x n c, Value.slice (some X) ks.length cap = .slice (some x) n c → ¬ B0 ≤ x.block) := by
          intro x n c hv
          have := O3.out.blk x n c hv
          omega
        have hbb : base ≤ B0 := by rw [hB0]; exact Nat.le_trans hbase M3.out.size
        have hbl0 : b < B0 := by rw [hB0]; exact hbl
        have HB0 := Lib.hid hB0
        clear hB0
        have TK := Lib.hid (rqL_takeN ks j)
        have TD := Lib.hid (rqL_dropN ks j)
        go_wp2_with (first
          | (at_builtin; refine appS (base := B0) rfl (.tmp 82) (.tmp 88) 36 TRq 3 rfl Try.underlying36 infoRq rfl (by decide) _ _ _ _ j (rqL (ks.take j)) (by have := HB0.out; simp; omega) (owns_empty _ _ _ _ (Nat.le_of_eq HB0.out)) rfl rfl (by rw [TK.out]; exact (O3.out.sl.alloc _).head (by omega)) (rqL_one _) (by decide) (by omega) ?_; intro v1 w4 o1 n1
             have O1 := Lib.hid o1
             have N1 := Lib.hid ((((Mod.refl (fun i => B0 ≤ i) wr).alloc (.cells #[] TRq))).trans n1)
             have hB4 : B0 ≤ w4.heap.size := by have := N1.out.size; have := HB0.out; omega
             clear o1 n1)
          | (at_builtin; refine appS (base := B0) rfl (.tmp 90) (.tmp 95) 36 TRq 3 rfl Try.underlying36 infoRq rfl (by decide) _ _ _ _ 1 [.int .i64 p, .int .i64 k, .int .i64 t] (by simp; omega) (owns_new O1.out ((Mod.refl (fun _ => False) w4).alloc _)) rfl rfl (sl_new w4 _ _) (by simp [Value.oneCell']) (by decide) (by omega) ?_; intro v2 w5 o2 n2
             have O2 := Lib.hid o2
             have N2 := Lib.hid ((N1.out.alloc (.cells #[.int .i64 p, .int .i64 k, .int .i64 t] TRq)).trans n2)
             have hB5 : B0 ≤ w5.heap.size := by have := N2.out.size; have := HB0.out; omega
             have k3 := N2.out.cell c3' (by show ¬ B0 ≤ b; omega)
             clear o2 n2)
          | (at_builtin; refine appS (base := B0) rfl (.tmp 98) (.tmp 104) 36 TRq 3 rfl Try.underlying36 infoRq rfl (by decide) _ _ _ _ (ks.length - j) (rqL (ks.drop j)) hB5 O2.out rfl rfl (by rw [TD.out]; first | exact (O3.out.sl.mod N2.out (HX.out)).tail (by omega) hcap | exact (O3.out.sl.mod N2.out (HX.out)).tailN (by omega) hcap) (rqL_one _) (by decide) (by omega) ?_; intro v3 w6 o3 n3
             obtain ⟨a3, cap3, rfl, _, _, _⟩ := o3.els
             have O3' := Lib.hid o3
             have N3 := Lib.hid (N2.out.trans n3)
             have k33 := N3.out.cell c3' (by show ¬ B0 ≤ b; omega)
             have f33 : w6.frozen? ⟨b, 3, none⟩ = false := by rw [N3.out.frozen hbl (by show ¬ B0 ≤ b; omega)]; exact f3'
             clear o3 n3 k3))
        all_goals (
          go_ret
          have hlenP : (putL ks k ⟨p, t⟩).length = j + 1 + (ks.length - j) := by rw [HP.out]; simp; omega
          refine ⟨rfl, ⟨H3.out.lt, a3, cap3, ?_, ?_⟩, ?_⟩
          · have := (B3.out.mod N3.out (by show ¬ B0 ≤ b; omega)).set 3 (.slice a3 (j + 1 + (ks.length - j)) cap3)
            rw [hlenP]
            exact this
          · have hr : rqL (putL ks k ⟨p, t⟩) = rqL (ks.take j) ++ [.int .i64 p, .int .i64 k, .int .i64 t] ++ rqL (ks.drop j) := by
              rw [HP.out, rqL_append, show (k, (⟨p, t⟩ : Rq)) :: ks.drop j = [(k, ⟨p, t⟩)] ++ ks.drop j from rfl, rqL_append, rq_one, ← List.append_assoc]
            have h1 : w6.ownsRow base TRq 3 (.slice a3 (putL ks k ⟨p, t⟩).length cap3) (putL ks k ⟨p, t⟩).length (rqL (putL ks k ⟨p, t⟩)) := by
              rw [hr, hlenP]
              simpa using O3'.out.mono hbb
            exact owns_mod (S := (· = b)) h1 ((Mod.refl _ w6).set1 3 _) (fun i hi e => by have := H3.out.lt; omega)
          · exact ((M3.out.mono (fun _ _ h => h.elim)).trans (N3.out.mono (S' := (· = b)) (fun i hi (h : B0 ≤ i) => by have := HB0.out; omega))).set1 3 _)
      | none =>
        have hk0 : ks = [] := by
          rcases O3.out.2 with ⟨_, h⟩ | ⟨g, c, cur, h, _⟩
          · exact List.length_eq_zero_iff.1 h
          · cases h
        subst hk0
        have hj0 : j = 0 := by simpa using hj
        subst hj0
        obtain ⟨B0, hB0⟩ : ∃ B, B = wr.heap.size := ⟨_, rfl⟩
        have hbb : base ≤ B0 := by rw [hB0]; exact Nat.le_trans hbase M3.out.size
        have hbl0 : b < B0 := by rw [hB0]; exact hbl
        have HB0 := Lib.hid hB0
        clear hB0
        have hcap0 : cap = 0 := by
          rcases O3.out.2 with ⟨h, _⟩ | ⟨g, c, cur, h, _⟩
          · cases h; rfl
          · cases h
        subst hcap0
        go_wp2_with (first
          | (at_builtin; refine appS (base := B0) rfl (.tmp 82) (.tmp 88) 36 TRq 3 rfl Try.underlying36 infoRq rfl (by decide) _ _ _ _ 0 [] (by have := HB0.out; simp; omega) (owns_empty _ _ _ _ (Nat.le_of_eq HB0.out)) rfl rfl (Sl.nil _ _) (by simp) (by decide) (by omega) ?_; intro v1 w4 o1 n1
             have O1 := Lib.hid o1
             have N1 := Lib.hid ((((Mod.refl (fun i => B0 ≤ i) wr).alloc (.cells #[] TRq))).trans n1)
             have hB4 : B0 ≤ w4.heap.size := by have := N1.out.size; have := HB0.out; omega
             clear o1 n1)
          | (at_builtin; refine appS (base := B0) rfl (.tmp 90) (.tmp 95) 36 TRq 3 rfl Try.underlying36 infoRq rfl (by decide) _ _ _ _ 1 [.int .i64 p, .int .i64 k, .int .i64 t] (by simp; omega) (owns_new O1.out ((Mod.refl (fun _ => False) w4).alloc _)) rfl rfl (sl_new w4 _ _) (by simp [Value.oneCell']) (by decide) (by omega) ?_; intro v2 w5 o2 n2
             have O2 := Lib.hid o2
             have N2 := Lib.hid ((N1.out.alloc (.cells #[.int .i64 p, .int .i64 k, .int .i64 t] TRq)).trans n2)
             have hB5 : B0 ≤ w5.heap.size := by have := N2.out.size; have := HB0.out; omega
             have k3 := N2.out.cell c3' (by show ¬ B0 ≤ b; omega)
             clear o2 n2)
          | (at_builtin; refine appS (base := B0) rfl (.tmp 98) (.tmp 104) 36 TRq 3 rfl Try.underlying36 infoRq rfl (by decide) _ _ _ _ 0 [] hB5 O2.out rfl rfl (Sl.nil _ _) (by simp) (by decide) (by omega) ?_; intro v3 w6 o3 n3
             obtain ⟨a3, cap3, rfl, _, _, _⟩ := o3.els
             have O3' := Lib.hid o3
             have N3 := Lib.hid (N2.out.trans n3)
             have k33 := N3.out.cell c3' (by show ¬ B0 ≤ b; omega)
             have f33 : w6.frozen? ⟨b, 3, none⟩ = false := by rw [N3.out.frozen hbl (by show ¬ B0 ≤ b; omega)]; exact f3'
             clear o3 n3 k3))
        go_ret
        refine ⟨rfl, ⟨H3.out.lt, a3, cap3, ?_, ?_⟩, ?_⟩
        · exact (B3.out.mod N3.out (by show ¬ B0 ≤ b; omega)).set 3 (.slice a3 1 cap3)
        · exact owns_mod (S := (· = b)) (O3'.out.mono hbb) ((Mod.refl _ w6).set1 3 _) (fun i hi e => by have := H3.out.lt; omega)
        · exact ((M3.out.mono (fun _ _ h => h.elim)).trans (N3.out.mono (S' := (· = b)) (fun i hi (h : B0 ≤ i) => by have := HB0.out; omega))).set1 3 _
end Go.Proofs.Ytfdmamaldgpbaaa
