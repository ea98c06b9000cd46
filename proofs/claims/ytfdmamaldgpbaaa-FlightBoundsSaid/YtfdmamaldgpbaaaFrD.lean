/- The reference of flight: Ask that is refused, Done; no condition. -/
import Derived.Test.YtfdmamaldgpbaaaFrC
import Derived.Test.YtfdmamaldgpbaaaRow
namespace Go.Proofs.Ytfdmamaldgpbaaa
open Go Go.RowKit

set_option maxRecDepth 100000 in
set_option maxHeartbeats 2000000 in
theorem refAskE (p k t : Int) (b base : Nat) (most each pat : Int) (ks : List (Int × Rq)) (w : World) (h : RT w b base most each pat ks) (hlen : ks.length ≤ 1000) (hr : Rising ks) (hE : askE most each ks p k t ≠ 0) :
    Calls Try.prog 24 #[.pointer (some ⟨b, 0, none⟩), .int .i64 p, .int .i64 k, .int .i64 t] w fun e w' => e = .returned (.int .i64 (askE most each ks p k t)) ∧ Mod (fun _ => False) w w' := by
  by_cases hin : 0 ≤ p ∧ p ≤ 65536 ∧ 0 ≤ k ∧ k ≤ 1023 ∧ 0 ≤ t ∧ t ≤ 1099511627776
  · obtain ⟨i1, i2, i3, i4, i5, i6⟩ := hin
    have e3 : (decide (0 ≤ t) && decide (t ≤ 1099511627776)) = true := by simp [i5, i6]
    have g1 : ¬ p < 0 := by omega
    have g2 : ¬ 65536 < p := by omega
    have g3 : ¬ k < 0 := by omega
    have g4 : ¬ 1023 < k := by omega
    have H := Lib.hid h
    have HR := Lib.hid hr
    cases hthere : lkL ks k with
    | some r =>
      have hA : askE most each ks p k t = 5 := by unfold askE; rw [if_neg (by simp; omega), hthere]; rfl
      rw [hA]
      have hat : rqAt ks k = .agg #[.int .i64 r.p, .int .i64 k, .int .i64 r.t] := by unfold rqAt; rw [hthere]; rfl
      have HA := Lib.hid hat
      have HT := Lib.hid hthere
      clear h hr hE hA hthere i1 i2 i3 i4 i5 i6 hat
      go_enter Try.func24, Try.ntmps24
      go_wp2_with fail
      refine (refMoment _ _).mono ?_; rw [e3]; rintro e w' ⟨rfl, rfl⟩
      go_wp2_with fail
      refine (refOf _ _ _ _ _ _ _ _ H.out (by omega) HR.out).mono ?_; rw [HT.out, HA.out]; rintro e w1 ⟨rfl, m1⟩
      go_wp2_with fail
      go_ret
      exact ⟨rfl, m1.alloc _⟩
    | none =>
      have hA : askE most each ks p k t = if most ≤ (ks.length : Int) ∨ each ≤ (many ks p : Int) then 3 else 0 := by
        unfold askE; rw [if_neg (by simp; omega), if_neg (by simp [hthere])]
      have hat : rqAt ks k = rq0 := by unfold rqAt; rw [hthere]; rfl
      have hful : most ≤ (ks.length : Int) ∨ each ≤ (many ks p : Int) := by
        by_cases g : most ≤ (ks.length : Int) ∨ each ≤ (many ks p : Int)
        · exact g
        · rw [hA, if_neg g] at hE; exact absurd rfl hE
      rw [hA, if_pos hful]
      have HA := Lib.hid hat
      have HT := Lib.hid hthere
      clear h hr hE hA hthere i1 i2 i3 i4 i5 i6 hat
      by_cases hf : most ≤ (ks.length : Int)
      · clear hful
        go_enter Try.func24, Try.ntmps24
        go_wp2_with fail
        refine (refMoment _ _).mono ?_; rw [e3]; rintro e w' ⟨rfl, rfl⟩
        go_wp2_with fail
        refine (refOf _ _ _ _ _ _ _ _ H.out (by omega) HR.out).mono ?_; rw [HT.out, HA.out]; rintro e w1 ⟨rfl, m1⟩
        clear g1 g2 g3 g4 e3
        have m2 : Mod (fun _ => False) w (w1.alloc (.cells #[.int .i64 0, .int .i64 0, .int .i64 0] TRq)) := m1.alloc _
        go_wp2_with fail
        have H2 := Lib.hid (H.out.new m2)
        have M2 := Lib.hid m2
        generalize w1.alloc (.cells #[.int .i64 0, .int .i64 0, .int .i64 0] TRq) = w2 at *
        obtain ⟨a, cap, c0, c1, _, c3, f3, he, hb, ho⟩ := H2.out.at
        clear m1 m2
        go_wp2_with fail
        refine wp_region2 [] [17] (by kernel_rfl) (by kernel_rfl) ?_
        repeat (first | (refine reg_anyT (by rfl) (fun K hK => ?_); go_simp; refine hK _ _ ?_; clear hK K) | (refine reg_read (by rfl) (fun K hK => ?_); go_simp; refine hK _ _ ?_; clear hK K))
        refine reg_nil (fun nd => ?_)
        go_wp2_with fail
        go_ret
        exact ⟨rfl, M2.out.drewN _⟩
      · have hg : each ≤ (many ks p : Int) := by
          rcases hful with h | h
          · exact absurd h hf
          · exact h
        clear hful
        go_enter Try.func24, Try.ntmps24
        go_wp2_with fail
        refine (refMoment _ _).mono ?_; rw [e3]; rintro e w' ⟨rfl, rfl⟩
        go_wp2_with fail
        refine (refOf _ _ _ _ _ _ _ _ H.out (by omega) HR.out).mono ?_; rw [HT.out, HA.out]; rintro e w1 ⟨rfl, m1⟩
        clear g1 g2 g3 g4 e3
        have m2 : Mod (fun _ => False) w (w1.alloc (.cells #[.int .i64 0, .int .i64 0, .int .i64 0] TRq)) := m1.alloc _
        go_wp2_with fail
        have H2 := Lib.hid (H.out.new m2)
        have M2 := Lib.hid m2
        generalize w1.alloc (.cells #[.int .i64 0, .int .i64 0, .int .i64 0] TRq) = w2 at *
        obtain ⟨a, cap, c0, c1, _, c3, f3, he, hb, ho⟩ := H2.out.at
        clear m1 m2
        go_wp2_with fail
        refine wp_region2 [] [17] (by kernel_rfl) (by kernel_rfl) ?_
        repeat (first | (refine reg_anyT (by rfl) (fun K hK => ?_); go_simp; refine hK _ _ ?_; clear hK K) | (refine reg_read (by rfl) (fun K hK => ?_); go_simp; refine hK _ _ ?_; clear hK K))
        refine reg_read (by rfl) (fun K hK => ?_); go_simp
        refine ⟨_, fun rn => rd_same (refMany p _ _ _ _ _ _ _ (H2.out.drewN rn) (by omega)), hK _ _ ?_⟩; clear hK K
        repeat (first | (refine reg_anyT (by rfl) (fun K hK => ?_); go_simp; refine hK _ _ ?_; clear hK K) | (refine reg_read (by rfl) (fun K hK => ?_); go_simp; refine hK _ _ ?_; clear hK K))
        refine reg_nil (fun nd => ?_)
        go_wp2_with fail
        go_ret
        exact ⟨rfl, M2.out.drewN _⟩
  · have hA : askE most each ks p k t = 1 := by unfold askE; rw [if_pos hin]
    rw [hA]
    have HN := Lib.hid hin
    by_cases ht : 0 ≤ t ∧ t ≤ 1099511627776
    · have e3 : (decide (0 ≤ t) && decide (t ≤ 1099511627776)) = true := by simp [ht.1, ht.2]
      have HT := Lib.hid ht
      clear h hr hE hA hin ht
      go_enter Try.func24, Try.ntmps24
      go_wp2_with fail
      refine (refMoment _ _).mono ?_; rw [e3]; rintro e w' ⟨rfl, rfl⟩
      go_wp2_with fail
      all_goals first | (go_ret; exact ⟨rfl, Mod.refl _ _⟩) | (exfalso; apply HN.out; have := HT.out; omega)
    · have e3 : (decide (0 ≤ t) && decide (t ≤ 1099511627776)) = false := by
        rw [Bool.and_eq_false_iff, decide_eq_false_iff_not, decide_eq_false_iff_not]; omega
      clear h hr hE hA hin ht
      go_enter Try.func24, Try.ntmps24
      go_wp2_with fail
      refine (refMoment _ _).mono ?_; rw [e3]; rintro e w' ⟨rfl, rfl⟩
      go_wp2_with fail
      all_goals (go_ret; exact ⟨rfl, Mod.refl _ _⟩)

/-- What is left behind a row that is taken out. -/
theorem del_at {α : Type} {ks : List (Int × α)} (hr : Rising ks) {i : Nat} {q : Int × α} (h : ks[i]? = some q) : delL ks q.1 = ks.take i ++ ks.drop (i + 1) := by
  induction ks generalizing i with
  | nil => simp at h
  | cons y t ih =>
    obtain ⟨h1, h2⟩ := List.pairwise_cons.1 hr
    cases i with
    | zero =>
      simp at h
      subst h
      unfold delL
      rw [List.filter_cons, if_neg (by simp)]
      show List.filter _ t = t
      rw [List.filter_eq_self]
      intro x hx
      have := h1 x hx
      simp; omega
    | succ i =>
      have h' : t[i]? = some q := by simpa using h
      have hq := h1 q (List.mem_of_getElem? h')
      have := ih h2 h'
      unfold delL at this ⊢
      rw [List.filter_cons, if_pos (by simp; omega), this]
      rfl

set_option maxRecDepth 100000 in
set_option maxHeartbeats 2000000 in
theorem refDoneNo (k : Int) (b base : Nat) (most each pat : Int) (ks : List (Int × Rq)) (w : World) (h : RT w b base most each pat ks) (hlen : ks.length ≤ 1000) (hno : lkL ks k = none) :
    Calls Try.prog 25 #[.pointer (some ⟨b, 0, none⟩), .int .i64 k] w fun e w' => e = .returned (.tuple #[rq0, .int .i64 4]) ∧ Mod (fun _ => False) w w' := by
  obtain ⟨a, cap, _, _, _, c3, _, he, _, _⟩ := h.at
  have HN := Lib.hid (lk_none.1 hno)
  have hb : b < w.heap.size := World.block_lt_of_cell? w _ c3
  clear h hno
  go_enter Try.func25, Try.ntmps25
  go_wp2_with fail
  have m1 : Mod (fun _ => False) w (w.alloc (.cells #[.int .i64 0, .int .i64 0, .int .i64 0] TRq)) := (Mod.refl _ w).alloc _
  have B1 := Lib.hid (Blk.new w #[.int .i64 0, .int .i64 0, .int .i64 0] TRq)
  have E1 := Lib.hid (he.out.new m1)
  have k3 := m1.cell c3 (fun h => h)
  have M1 := Lib.hid m1
  generalize w.alloc (.cells #[.int .i64 0, .int .i64 0, .int .i64 0] TRq) = w1 at *
  obtain ⟨B, hB⟩ : ∃ B, B = w.heap.size := ⟨_, rfl⟩
  rw [← hB] at B1 hb ⊢
  have HB := Lib.hid hB
  clear he hB c3 m1
  go_loopw [6] (fun v wr => ∃ j : Nat, v = .int .i64 j ∧ j ≤ ks.length ∧ wr = w1) (fun v _ => ks.length - (intOf v).toNat)
  case atStart => exact ⟨0, rfl, Nat.zero_le _, rfl⟩
  case round =>
    obtain ⟨j, rfl, hk, rfl⟩ := hrel
    by_cases hlt : (j : Int) < ks.length
    · obtain ⟨⟨x, r⟩, hkr⟩ : ∃ q, ks[j]? = some q := ⟨_, List.getElem?_eq_getElem (by omega)⟩
      obtain ⟨X, rfl, p0, p1, p2⟩ := rqEl E1.out (Nat.le_refl _) hkr
      have e' : (x == k) = false := by have := HN.out (x, r) (List.mem_of_getElem? hkr); simpa using this
      clear hkr
      go_wp2_with fail
      exact ⟨⟨j + 1, by go_num, by omega, by first | trivial | rfl⟩, by simp [intOf]; omega⟩
    · have f0 := B1.out.frozen 0; have f1 := B1.out.frozen 1; have f2 := B1.out.frozen 2
      have x0 := B1.out.cell 0; have x1 := B1.out.cell 1; have x2 := B1.out.cell 2
      have d0 := (B1.out.set 0 (.int .i64 0)).cell 0
      have d1 := ((B1.out.set 0 (.int .i64 0)).set 1 (.int .i64 0)).cell 1
      have d2 := (((B1.out.set 0 (.int .i64 0)).set 1 (.int .i64 0)).set 2 (.int .i64 0)).cell 2
      have D0 := Lib.hid d0; have D1 := Lib.hid d1; have D2 := Lib.hid d2
      clear d0 d1 d2
      go_wp2_with fail
      refine bodyPost_ret (v := .tuple #[.agg #[.int .i64 0, .int .i64 0, .int .i64 0], .int .i64 4]) (by simp [results, Try.results25, go_sem, D0.out, D1.out, D2.out]) rfl ⟨rfl, ?_⟩
      exact ((M1.out.setCell (.inr (Nat.le_of_eq HB.out.symm)) _).setCell (.inr (Nat.le_of_eq HB.out.symm)) _).setCell (.inr (Nat.le_of_eq HB.out.symm)) _
end Go.Proofs.Ytfdmamaldgpbaaa
