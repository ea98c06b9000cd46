/- The reference of strikes: sooner, Good, Expire; no condition. -/
import Derived.Test.YtiabjaaamgjlnaaSrB
namespace Go.Proofs.Ytiabjaaamgjlnaa
open Go Go.RowKit

set_option maxRecDepth 100000 in
set_option maxHeartbeats 2000000 in
theorem refSooner (k1 k2 : Int) (r1 r2 : Rc) (w : World) (h1 : 0 ≤ r1.u) (h2 : 0 ≤ r2.u) :
    Calls Try.prog 44 #[.agg #[.int .i64 k1, .int .i64 r1.s, .int .i64 r1.u, .int .i64 r1.b], .agg #[.int .i64 k2, .int .i64 r2.s, .int .i64 r2.u, .int .i64 r2.b]] w fun e w' => e = .returned (.bool (decide (lessF (k1, r1) (k2, r2)))) ∧ Mod (fun _ => False) w w' := by
  obtain ⟨s1, u1, b1⟩ := r1
  obtain ⟨s2, u2, b2⟩ := r2
  obtain ⟨L, hL⟩ : ∃ L, L = decide (lessF (k1, ⟨s1, u1, b1⟩) (k2, ⟨s2, u2, b2⟩)) := ⟨_, rfl⟩
  have HL := Lib.hid hL
  rw [← hL]
  dsimp only at *
  clear hL
  have fin : ∀ B : Bool, (B = true ↔ lessF (k1, ⟨s1, u1, b1⟩) (k2, ⟨s2, u2, b2⟩)) → L = B := by
    intro B hB
    rw [HL.out]
    by_cases h : lessF (k1, ⟨s1, u1, b1⟩) (k2, ⟨s2, u2, b2⟩)
    · rw [decide_eq_true h, hB.2 h]
    · rw [decide_eq_false h]
      cases B with
      | false => rfl
      | true => exact absurd (hB.1 rfl) h
  have FIN := Lib.hid fin
  clear fin
  by_cases g1 : 0 < u1
  · by_cases g2 : 0 < u2
    · rcases Int.lt_trichotomy u1 u2 with g | g | g
      · go_enter Try.func44, Try.ntmps44
        go_wp2_with fail
        all_goals (
          go_ret
          refine ⟨congrArg (fun b => Ending.returned (Value.bool b)) (FIN.out _ ?_).symm, ((Mod.refl _ w).alloc _).alloc _⟩
          unfold lessF
          simp
          try omega)
      · subst g
        have HG2 := Lib.hid g2
        by_cases gk : k2 < k1
        · go_enter Try.func44, Try.ntmps44
          go_wp2_with fail
          all_goals (
            go_ret
            refine ⟨congrArg (fun b => Ending.returned (Value.bool b)) (FIN.out _ ?_).symm, ((Mod.refl _ w).alloc _).alloc _⟩
            unfold lessF
            simp
            try omega)
        · have dk : decide (k2 < k1) = false := by simpa using gk
          go_enter Try.func44, Try.ntmps44
          go_wp2_with fail
          all_goals (
            go_ret
            refine ⟨congrArg (fun b => Ending.returned (Value.bool b)) (FIN.out _ ?_).symm, ((Mod.refl _ w).alloc _).alloc _⟩
            unfold lessF
            simp
            try omega)
      · have d3 : decide (u1 < u2) = false := by simp; omega
        have d4 : (u1 == u2) = false := by simp; omega
        go_enter Try.func44, Try.ntmps44
        go_wp2_with fail
        all_goals (
          go_ret
          refine ⟨congrArg (fun b => Ending.returned (Value.bool b)) (FIN.out _ ?_).symm, ((Mod.refl _ w).alloc _).alloc _⟩
          unfold lessF
          simp
          try omega)
    · have d2 : decide (0 < u2) = false := by simpa using g2
      have d3 : (u1 == 0) = false := by simp; omega
      go_enter Try.func44, Try.ntmps44
      go_wp2_with fail
      all_goals (
        go_ret
        refine ⟨congrArg (fun b => Ending.returned (Value.bool b)) (FIN.out _ ?_).symm, ((Mod.refl _ w).alloc _).alloc _⟩
        unfold lessF
        simp
        try omega)
  · have d1 : decide (0 < u1) = false := by simpa using g1
    have e1 : u1 = 0 := by omega
    subst e1
    by_cases g2 : 0 < u2
    · go_enter Try.func44, Try.ntmps44
      go_wp2_with fail
      all_goals (
        go_ret
        refine ⟨congrArg (fun b => Ending.returned (Value.bool b)) (FIN.out _ ?_).symm, ((Mod.refl _ w).alloc _).alloc _⟩
        unfold lessF
        simp
        try omega)
    · have d2 : decide (0 < u2) = false := by simpa using g2
      have e2 : u2 = 0 := by omega
      subst e2
      rcases Int.lt_trichotomy s1 s2 with g | g | g
      · have d3 : (s1 != s2) = true := by simp; omega
        go_enter Try.func44, Try.ntmps44
        go_wp2_with fail
        all_goals (
          go_ret
          refine ⟨congrArg (fun b => Ending.returned (Value.bool b)) (FIN.out _ ?_).symm, ((Mod.refl _ w).alloc _).alloc _⟩
          unfold lessF
          simp
          try omega)
      · subst g
        rcases Int.lt_trichotomy b1 b2 with g | g | g
        · go_enter Try.func44, Try.ntmps44
          go_wp2_with fail
          all_goals (
            go_ret
            refine ⟨congrArg (fun b => Ending.returned (Value.bool b)) (FIN.out _ ?_).symm, ((Mod.refl _ w).alloc _).alloc _⟩
            unfold lessF
            simp
            try omega)
        · subst g
          by_cases gk : k2 < k1
          · go_enter Try.func44, Try.ntmps44
            go_wp2_with fail
            all_goals (
              go_ret
              refine ⟨congrArg (fun b => Ending.returned (Value.bool b)) (FIN.out _ ?_).symm, ((Mod.refl _ w).alloc _).alloc _⟩
              unfold lessF
              simp
              try omega)
          · have dk : decide (k2 < k1) = false := by simpa using gk
            go_enter Try.func44, Try.ntmps44
            go_wp2_with fail
            all_goals (
              go_ret
              refine ⟨congrArg (fun b => Ending.returned (Value.bool b)) (FIN.out _ ?_).symm, ((Mod.refl _ w).alloc _).alloc _⟩
              unfold lessF
              simp
              try omega)
        · have d5 : decide (b1 < b2) = false := by simp; omega
          have d4 : (b1 == b2) = false := by simp; omega
          go_enter Try.func44, Try.ntmps44
          go_wp2_with fail
          all_goals (
            go_ret
            refine ⟨congrArg (fun b => Ending.returned (Value.bool b)) (FIN.out _ ?_).symm, ((Mod.refl _ w).alloc _).alloc _⟩
            unfold lessF
            simp
            try omega)
      · have d3 : (s1 != s2) = true := by simp; omega
        have d4 : decide (s1 < s2) = false := by simp; omega
        go_enter Try.func44, Try.ntmps44
        go_wp2_with fail
        all_goals (
          go_ret
          refine ⟨congrArg (fun b => Ending.returned (Value.bool b)) (FIN.out _ ?_).symm, ((Mod.refl _ w).alloc _).alloc _⟩
          unfold lessF
          simp
          try omega)

set_option maxRecDepth 100000 in
set_option maxHeartbeats 2000000 in
theorem refExpireBad (now : Int) (b : Nat) (w : World) (h : ¬ (0 ≤ now ∧ now ≤ 1099511627776)) :
    Calls Try.prog 29 #[.pointer (some ⟨b, 0, none⟩), .int .i64 now] w fun e w' => e = .returned (.tuple #[.slice none 0 0, .int .i64 1]) ∧ w = w' := by
  have e1 : (decide (0 ≤ now) && decide (now ≤ 1099511627776)) = false := by
    rw [Bool.and_eq_false_iff, decide_eq_false_iff_not, decide_eq_false_iff_not]; omega
  clear h
  go_enter Try.func29, Try.ntmps29
  go_wp2_with fail
  refine (refMoment _ _).mono ?_; rw [e1]; rintro e w' ⟨rfl, rfl⟩
  go_wp2_with fail
  go_ret2
  exact ⟨rfl, rfl⟩

theorem recL_snoc2 (l : List (Int × Rc)) (x : Int) (r : Rc) : recL (l ++ [(x, r)]) = recL l ++ [.int .i64 x, .int .i64 r.s, .int .i64 r.u, .int .i64 r.b] := recL_snoc l (x, r)
set_option maxRecDepth 100000 in
set_option maxHeartbeats 2000000 in
theorem refExpire (now : Int) (b base : Nat) (lim ban most : Int) (ks : List (Int × Rc)) (w : World) (h : RB w b base lim ban most ks) (hlen : ks.length ≤ 1000) (hbase : base ≤ w.heap.size) (hn : 0 ≤ now ∧ now ≤ 1099511627776) :
    Calls Try.prog 29 #[.pointer (some ⟨b, 0, none⟩), .int .i64 now] w fun e w' => (∃ v, e = .returned (.tuple #[v, .int .i64 0]) ∧ w'.ownsRow w.heap.size 3 1 v (keysL (ks.filter (isOver now))).length (intL (keysL (ks.filter (isOver now))))) ∧ RB w' b base lim ban most (ks.filter fun q => !isOver now q) ∧ Mod (· = b) w w' := by
  obtain ⟨a, cap, _, _, _, c3, f3, he, hbk, ho, _⟩ := h.at
  have e1 : (decide (0 ≤ now) && decide (now ≤ 1099511627776)) = true := by simp [hn.1, hn.2]
  have HLT := Lib.hid h.lt
  have hb : b < w.heap.size := World.block_lt_of_cell? w _ c3
  obtain ⟨φ, hφ⟩ : ∃ φ : Int × Rc → Bool, φ = isOver now := ⟨_, rfl⟩
  have HPHI := Lib.hid hφ
  rw [← hφ]
  clear h hφ
  go_enter Try.func29, Try.ntmps29
  go_wp2_with fail
  refine (refMoment _ _).mono ?_; rw [e1]; rintro e w' ⟨rfl, rfl⟩
  clear e1
  go_wp2_with fail
  go_loopw [7, 8, 9] (fun v u i wr => ∃ k : Nat, i = .int .i64 k ∧ k ≤ ks.length ∧ Hid (wr.ownsRow w.heap.size 3 1 v (keysL ((ks.take k).filter φ)).length (intL (keysL ((ks.take k).filter φ)))) ∧ Hid (wr.ownsRow w.heap.size TKn 4 u ((ks.take k).filter fun x => !φ x).length (recL ((ks.take k).filter fun x => !φ x))) ∧ Hid (Apart v u) ∧ Mod (fun _ => False) w wr) (fun _ _ i _ => ks.length - (intOf i).toNat)
  case atStart => exact ⟨0, rfl, Nat.zero_le _, World.ownsRow_nil _ _ _ _, World.ownsRow_nil _ _ _ _, Apart.nil _, Mod.refl _ _⟩
  case round =>
    obtain ⟨k, rfl, hk, ho1, ho2, hap, hm⟩ := hrel
    have k3 := hm.cell c3 (fun h => h)
    by_cases hlt : (k : Int) < ks.length
    · obtain ⟨⟨x, r⟩, hkr⟩ : ∃ q, ks[k]? = some q := ⟨_, List.getElem?_eq_getElem (by omega)⟩
      obtain ⟨X, rfl, p0, p1, p2, p3⟩ := recEl (he.out.new hm) (Nat.le_refl _) hkr
      have F1 := Lib.hid (filterG_take φ ks k (x, r) hkr)
      have F2 := Lib.hid (filterG_take (fun x => !φ x) ks k (x, r) hkr)
      have hl1 : (keysL ((ks.take k).filter φ)).length ≤ 1000 := by
        rw [keys_len]
        have := List.length_filter_le φ (ks.take k)
        have h2 : (ks.take k).length ≤ k := List.length_take_le _ _
        omega
      have hl2 : ((ks.take k).filter fun x => !φ x).length ≤ 1000 := by
        have := List.length_filter_le (fun x => !φ x) (ks.take k)
        have h2 : (ks.take k).length ≤ k := List.length_take_le _ _
        omega
      have hphi : φ (x, r) = (decide (0 < r.u) && decide (r.u ≤ now)) := by rw [HPHI.out]; rfl
      have hk1 : ks.length - (k + 1) < ks.length - k := by omega
      clear hkr
      by_cases hu : 0 < r.u ∧ r.u ≤ now
      · have hu1 := hu.1
        have hu2 := hu.2
        have FT : Hid (φ (x, r) = true) := by show _ = _; rw [hphi]; simp [hu1, hu2]
        clear hphi hu
        go_wp2_with (at_builtin; refine app1 (base := w.heap.size) rfl (.tmp 44) (.tmp 53) 34 3 1 rfl Try.underlying34 infoInt rfl (by decide) _ _ _ _ 1 [.int .i64 x] (by have := hm.size; simp; omega) (ho1.out.alloc _) rfl rfl (sl_new wr #[.int .i64 x] 3) (by simp [Value.oneCell']) (by decide) (by omega) ?_; intro v' w' g1 g2 g3
                     have G1 := Lib.hid g1
                     have G2 := Lib.hid (((Mod.refl _ wr).alloc (.cells #[.int .i64 x] 3)).trans g2)
                     have G3 := Lib.hid g3
                     clear g1 g2 g3)
        refine ⟨⟨k + 1, by go_num, by omega, ?_, ?_, G3.out |> Apart.step hap.out ho2.out (by simp), (hm.new (G2.out) (own_ge ho1.out))⟩, by simp [intOf]; omega⟩
        · show World.ownsRow _ _ _ _ _ _ _
          rw [F1.out, FT.out, if_pos rfl, keys_append, intL_append, List.length_append]
          exact G1.out
        · show World.ownsRow _ _ _ _ _ _ _
          rw [F2.out, FT.out]
          simpa using owns_apart ho2.out G2.out hap.out
      · have FT : Hid (φ (x, r) = false) := by
          show _ = _
          rw [hphi, Bool.and_eq_false_iff, decide_eq_false_iff_not, decide_eq_false_iff_not]; omega
        have HU := Lib.hid hu
        clear hphi hu
        go_wp2_with (at_builtin; refine app1 (base := w.heap.size) rfl (.tmp 55) (.tmp 63) TKs TKn 4 rfl Try.underlying63 infoKr rfl (by decide) _ _ _ _ 1 [.int .i64 x, .int .i64 r.s, .int .i64 r.u, .int .i64 r.b] (by have := hm.size; simp; omega) (ho2.out.alloc _) rfl rfl (sl_new wr _ _) (by simp [Value.oneCell']) (by decide) (by omega) ?_; intro v' w' g1 g2 g3
                     have G1 := Lib.hid g1
                     have G2 := Lib.hid (((Mod.refl (fun i => u8.ownBlock = some i) wr).alloc (.cells #[.int .i64 x, .int .i64 r.s, .int .i64 r.u, .int .i64 r.b] TKn)).trans g2)
                     have G3 := Lib.hid g3
                     clear g1 g2 g3)
        all_goals first
          | (exfalso; apply HU.out; constructor <;> omega)
          | (refine ⟨⟨k + 1, by go_num, by omega, ?_, ?_, (G3.out |> Apart.step hap.out.symm ho1.out (by simp)).symm, (hm.new (G2.out) (own_ge ho2.out))⟩, by simp [intOf]; omega⟩
             · show World.ownsRow _ _ _ _ _ _ _
               rw [F1.out, FT.out]
               simpa using owns_apart ho1.out G2.out hap.out.symm
             · show World.ownsRow _ _ _ _ _ _ _
               rw [F2.out, FT.out, Bool.not_false, if_pos rfl, recL_snoc2]
               simpa using G1.out)
    · have hkn : k = ks.length := by omega
      have h1 := ho1.out
      have h2 := ho2.out
      rw [hkn, List.take_length] at h1 h2
      obtain ⟨a3, cap3, rfl, _, _, _⟩ := h2.els
      have O1 := Lib.hid h1
      have O2 := Lib.hid h2
      have f33 : wr.frozen? ⟨b, 3, none⟩ = false := by rw [hm.frozen (by show b < _; omega) (fun h => h)]; exact f3
      have HB := Lib.hid (hbk.out.mod hm (fun h => h))
      have hbw : base ≤ w.heap.size := hbase
      clear h1 h2 ho1 ho2 hkn
      go_wp2_with fail
      go_ret2
      refine ⟨⟨_, rfl, ?_⟩, ⟨HLT.out, a3, cap3, HB.out.set 3 _, ?_⟩, (hm.mono (fun _ _ h => h.elim)).set1 3 _⟩
      · exact owns_modG (S := (· = b)) O1.out ((Mod.refl _ wr).set1 3 _) (fun i hi e => by omega)
      · exact (owns_modG (S := (· = b)) O2.out ((Mod.refl _ wr).set1 3 _) (fun i hi e => by omega)).mono hbw
end Go.Proofs.Ytiabjaaamgjlnaa
