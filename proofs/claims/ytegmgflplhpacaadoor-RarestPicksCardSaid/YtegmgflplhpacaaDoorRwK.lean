/- The walk of the statement RarestPicks: the call returns true and turns nothing that was there; no condition but the table. -/
import Derived.Test.YtegmgflplhpacaaDoorRcD
import Derived.Deep.CutBlock
import Derived.Deep.CutRange
namespace Go.Proofs.YtegmgflplhpacaaDoor
open Go Go.RowKit

/-- Whether one below k is so. -/
def anyB (F : Nat → Bool) : Nat → Bool
  | 0 => false
  | k + 1 => anyB F k || F k
theorem anyB_no {F : Nat → Bool} : ∀ {k : Nat}, anyB F k = false → ∀ y, y < k → F y = false
  | 0, _, y, h => by omega
  | k + 1, h, y, hy => by
    have h' : (anyB F k || F k) = false := h
    obtain ⟨h1, h2⟩ := Bool.or_eq_false_iff.1 h'
    by_cases e : y = k
    · rw [e]; exact h2
    · exact anyB_no h1 y (by omega)
structure PickOk (c : Nat → Int) (F : Nat → Bool) (k : Nat) (l : List Nat) : Prop where
  nil : l = [] → anyB F k = false
  some : l ≠ [] → anyB F k = true
  ok : ∀ x ∈ l, F x = true ∧ x < k ∧ ∀ y, y < k → F y = true → c x ≤ c y
theorem pickL_ok (c : Nat → Int) (F : Nat → Bool) : ∀ k, PickOk c F k (pickL c F k)
  | 0 => ⟨fun _ => rfl, fun h => absurd rfl h, fun x h => by simp [pickL] at h⟩
  | k + 1 => by
    obtain ⟨h1, h2, h3⟩ := pickL_ok c F k
    unfold pickL
    by_cases hk : F k = true
    · rw [if_pos hk]
      have hany : anyB F (k + 1) = true := by show (anyB F k || F k) = true; rw [hk, Bool.or_true]
      cases hl : pickL c F k with
      | nil =>
        have hno := anyB_no (h1 hl)
        show PickOk c F (k + 1) [k]
        refine ⟨fun h => by simp at h, fun _ => hany, fun x hx => ?_⟩
        obtain rfl : x = k := by simpa using hx
        refine ⟨hk, by omega, fun y hy hF => ?_⟩
        by_cases e : y = x
        · rw [e]; exact Int.le_refl _
        · rw [hno y (by omega)] at hF; cases hF
      | cons h t =>
        rw [hl] at h3
        obtain ⟨hF, hlt, hle⟩ := h3 h (List.mem_cons_self ..)
        have hall : ∀ y, y < k + 1 → F y = true → ∀ z, z ≤ c h → z ≤ c k → z ≤ c y := fun y hy hFy z hz1 hz2 => by
          by_cases e : y = k
          · rw [e]; exact hz2
          · have := hle y (by omega) hFy; omega
        show PickOk c F (k + 1) (if c k < c h then [k] else if c k = c h then (h :: t) ++ [k] else h :: t)
        split
        · rename_i hlk
          refine ⟨fun h => by simp at h, fun _ => hany, fun x hx => ?_⟩
          obtain rfl : x = k := by simpa using hx
          exact ⟨hk, by omega, fun y hy hFy => hall y hy hFy _ (by omega) (Int.le_refl _)⟩
        · split
          · rename_i hlk hek
            refine ⟨fun h => by simp at h, fun _ => hany, fun x hx => ?_⟩
            rcases List.mem_append.1 hx with hx | hx
            · obtain ⟨g1, g2, g3⟩ := h3 x hx
              have := g3 h hlt hF
              exact ⟨g1, by omega, fun y hy hFy => hall y hy hFy _ this (by omega)⟩
            · obtain rfl : x = k := by simpa using hx
              exact ⟨hk, by omega, fun y hy hFy => hall y hy hFy _ (by omega) (Int.le_refl _)⟩
          · rename_i hlk hek
            refine ⟨fun h => by simp at h, fun _ => hany, fun x hx => ?_⟩
            obtain ⟨g1, g2, g3⟩ := h3 x hx
            have := g3 h hlt hF
            exact ⟨g1, by omega, fun y hy hFy => hall y hy hFy _ this (by omega)⟩
    · rw [if_neg hk]
      have hk' : F k = false := by simpa using hk
      have hany : anyB F (k + 1) = anyB F k := by show (anyB F k || F k) = _; rw [hk', Bool.or_false]
      refine ⟨fun h => by rw [hany]; exact h1 h, fun h => by rw [hany]; exact h2 h, fun x hx => ?_⟩
      obtain ⟨g1, g2, g3⟩ := h3 x hx
      refine ⟨g1, by omega, fun y hy hFy => ?_⟩
      by_cases e : y = k
      · rw [e, hk'] at hFy; cases hFy
      · exact g3 y (by omega) hFy
/-- What is picked. -/
theorem pickR_ok (c : Nat → Int) (F : Nat → Bool) (n : Nat) (seed : Int) : (pickR c F n seed = -1 ∧ ∀ y, y < n → F y = false) ∨ ∃ x : Nat, pickR c F n seed = x ∧ x < n ∧ F x = true ∧ anyB F n = true ∧ ∀ y, y < n → F y = true → c x ≤ c y := by
  obtain ⟨h1, h2, h3⟩ := pickL_ok c F n
  unfold pickR
  by_cases hl : pickL c F n = []
  · left
    rw [hl]
    exact ⟨rfl, anyB_no (h1 hl)⟩
  · right
    have hpos : 0 < (pickL c F n).length := List.length_pos_iff.2 hl
    rw [if_neg (by omega)]
    obtain ⟨k, hk, hkl⟩ := blw_at seed hpos
    rw [hk, Int.toNat_natCast, List.getD_eq_getElem?_getD, List.getElem?_eq_getElem hkl]
    obtain ⟨g1, g2, g3⟩ := h3 _ (List.getElem_mem hkl)
    exact ⟨_, rfl, g2, g1, h2 hl, g3⟩
theorem hasB_nat (f : Nat → Bool) (m : Nat) : hasB f (m : Int) = f m := by unfold hasB; simp

set_option maxRecDepth 100000 in
set_option maxHeartbeats 8000000 in
theorem rarestPicks_walk (p : Int) (a1 : Option Addr) (len1 cap1 : Nat) (l : List Sb) (x : Sb) (w : World) (hT : TabW w) (_ : (Lit.int .i64 p).wf = true) (hl : IsSbs w a1 len1 l) (ho : OkSb w x) :
    Calls Tryd.prog 5 #[.int .i64 p, .slice a1 len1 cap1, .agg (spB x)] w fun e w' => e = .returned (.bool true) ∧ Below w.heap.size w w' := by
  refine Calls.mono (R := fun e w' => e = .returned (.bool true) ∧ Mod (fun _ => False) w w') ?_ (fun e w' ⟨h1, h2⟩ => ⟨h1, h2.bel⟩)
  have m0 := (Mod.refl (fun _ => False) w).alloc (.cells (spB x) TSt)
  have HL := Lib.hid (hl.below m0.bel)
  have HT := Lib.hid (hT.mod m0 (fun h => h))
  have HOX := Lib.hid (ho.new m0)
  have X0 := Lib.hid (Blk.new w (spB x) TSt)
  have MW := Lib.hid m0
  have HAW := Lib.hid (awake13 _ HT.out)
  have hll : (len1 : Int) ≤ 9223372036854775807 := hl.2.1
  clear hl hT ho m0
  obtain ⟨xd, xp, xn, xa, xl, xc, xb, xz⟩ := x
  dsimp only [spB] at *
  go_enter Tryd.func5, Tryd.ntmps5
  go_upto_region 1 with fail
  generalize w.alloc (.cells #[.int .i64 xd, .int .i64 xp, .int .i64 xn, .slice xa xl xc, .int .u64 xz] TSt) = w0 at *
  obtain ⟨BX, hBX⟩ : ∃ B, B = w.heap.size := ⟨_, rfl⟩
  rw [← hBX] at X0 ⊢
  clear hBX
  by_cases hp1 : p < 1
  · go_wp2_with fail
    refine HAW.out.mono ?_; rintro e w1 ⟨rfl, m1⟩
    go_wp2_with fail
    go_ret
    exact ⟨rfl, MW.out.trans m1⟩
  · by_cases hp2 : 100 < p
    · go_wp2_with fail
      refine HAW.out.mono ?_; rintro e w1 ⟨rfl, m1⟩
      go_wp2_with fail
      go_ret
      exact ⟨rfl, MW.out.trans m1⟩
    · obtain ⟨n, rfl⟩ : ∃ n : Nat, p = (n : Int) := ⟨p.toNat, by omega⟩
      have HOKB : Hid (BoardOk n 64) := by show BoardOk n 64; unfold BoardOk; omega
      have HN := Lib.hid (show 1 ≤ n ∧ n ≤ 100 by omega)
      go_wp2_with fail
      refine HAW.out.mono ?_; rintro e w1 ⟨rfl, m1⟩
      have M1 := Lib.hid m1
      have HT1 := Lib.hid (HT.out.mod m1 (fun h => h))
      clear m1 HAW
      have HRN := Lib.hid (rareNew n 64 w1 HOKB.out HT1.out)
      go_wp2_with fail
      refine HRN.out.mono ?_; rintro e w2 ⟨rfl, h2, m2, z2⟩
      obtain ⟨b, hb⟩ : ∃ b, b = w1.heap.size + 2 := ⟨_, rfl⟩
      obtain ⟨M, hM⟩ : ∃ b, b = w1.heap.size := ⟨_, rfl⟩
      obtain ⟨g, hg⟩ : ∃ b, b = w1.heap.size + 1 := ⟨_, rfl⟩
      rw [← hb, ← hg, ← hM] at h2
      rw [← hb]
      have HLO : Hid (w0.heap.size ≤ b ∧ w0.heap.size ≤ M ∧ w0.heap.size ≤ g) := by have := M1.out.size; show _ ∧ _ ∧ _; omega
      have H2 := Lib.hid h2
      have M2 := Lib.hid (M1.out.trans m2)
      clear hb hM hg h2 m2 z2 HRN M1 HT1
      have HRN := Lib.hid (refRNew n 64 w2 HOKB.out)
      go_wp2_with fail
      refine HRN.out.mono ?_; rintro e w3 ⟨rfl, h3, m3, z3⟩
      have TW := Lib.hid (TwoP.start HOKB.out HT.out H2.out M2.out HLO.out h3 rfl m3 z3)
      have M3 := Lib.hid (M2.out.trans m3)
      obtain ⟨b', hb'⟩ : ∃ b, b = w2.heap.size := ⟨_, rfl⟩
      rw [← hb'] at TW ⊢
      clear hb' h3 m3 z3 HRN H2 M2 HLO
      clear hp1 hp2
      go_upto_block 0 with fail
      go_cut [12] from 49 to 65 (fun v wx => ∃ L : LB, Hid (TwoP wx w0.heap.size b b' n 64 L) ∧ Mod (fun _ => False) w0 wx)
      case first =>
        go_wp2_with fail
        go_loopw [12] (fun v wr => ∃ (k : Nat) (L : LB), v = .int .i64 k ∧ k ≤ len1 ∧ k ≤ 60 ∧ Hid (TwoP wr w0.heap.size b b' n 64 L) ∧ Mod (fun _ => False) w0 wr) (fun v _ => 60 - (intOf v).toNat)
        case atStart => exact ⟨0, [], rfl, Nat.zero_le _, Nat.zero_le _, TW, M3.out⟩
        case round =>
          obtain ⟨k, L, rfl, hk, hk100, hB, hm⟩ := hrel
          by_cases hlt : k < len1 ∧ k < 60
          · obtain ⟨hlt1, hlt2⟩ := hlt
            have hlt2' : (k : Int) < 60 := by omega
            obtain ⟨t, ht⟩ : ∃ t, l[k]? = some t := ⟨_, List.getElem?_eq_getElem (by rw [HL.out.1]; exact hlt1)⟩
            obtain ⟨hot, X, rfl, c0, c1, c2, c3, c4⟩ := (HL.out.below hm.bel).2.2 k t ht
            have HO := Lib.hid hot
            have HTT := Lib.hid ht
            have HM := Lib.hid hm
            have hlt1' : (k : Int) < len1 := by omega
            clear ht hot hm
            have HST := Lib.hid (step13 t w0.heap.size b b' n 64 L wr hB.out HO.out)
            go_wp2_with fail
            refine HST.out.mono ?_; rintro e w5 ⟨rfl, b5, m5⟩
            have hm5 : Mod (fun _ => False) w0 w5 := HM.out.new m5 (fun i hi => hi)
            obtain ⟨L5, hL5⟩ : ∃ x, x = stepA n 64 L t := ⟨_, rfl⟩
            rw [← hL5] at b5
            have B5 := Lib.hid b5
            have HM5 := Lib.hid hm5
            clear b5 m5 hm5 hL5 hB HM HST c0 c1 c2 c3 c4
            go_wp2_with fail
            exact ⟨⟨k + 1, L5, by go_num, by omega, by omega, B5, HM5.out⟩, by simp [intOf]; omega⟩
          · have hend : (k : Int) < len1 → ¬ (k : Int) < 60 := by omega
            by_cases h6 : (k : Int) < len1
            · have h7 : ¬ (k : Int) < 60 := hend h6
              clear hend
              go_wp2_with fail
              go_meet
              exact ⟨L, hB, hm⟩
            · clear hend
              go_wp2_with fail
              go_meet
              exact ⟨L, hB, hm⟩
      case rest =>
        obtain ⟨L, B4, hm4⟩ := hcut
        obtain ⟨w4, hw4⟩ : ∃ w4 : World, w4 = wc := ⟨_, rfl⟩
        rw [← hw4] at B4 hm4 ⊢
        have M4 := Lib.hid (MW.out.trans hm4)
        have X4 := Lib.hid (X0.out.mod hm4 (fun h => h))
        have HO4 := Lib.hid (HOX.out.below hm4.bel)
        clear hm4 hw4 TW M3 MW X0 HL HT
        have hn100 := HN.out.2
        have hn1 := HN.out.1
        have HS := Lib.hid (setsOk n xa xl xc xb w4 (by omega) HO4.out.sl HO4.out.by8)
        have HI := Lib.hid (show I64 xp from HO4.out.i)
        have c1 := X4.out.cell 1; have c3 := X4.out.cell 3; have c4 := X4.out.cell 4
        clear hn1
        go_wp2_with fail
        refine HS.out.mono ?_; rintro e w5 ⟨s, sg, r, rg, rfl, b5, -, m5, l5, -⟩
        have S5 := Lib.hid b5
        have B5 := Lib.hid (B4.out.new m5)
        have M5 := Lib.hid (M4.out.trans m5)
        have X5 := Lib.hid (X4.out.mod m5 (fun h => h))
        clear b5 m5 l5 B4 M4 X4 HS HO4 HOX c1 c3 c4
        have c1 := X5.out.cell 1; have c4 := X5.out.cell 4
        cases hof : lkL L xp with
        | none =>
          have HOF := Lib.hid (twoOfNo B5.out HI.out hof)
          have HPK := Lib.hid (twoPick B5.out HI.out xz (so := some s) (x := some (n, F13 n xb)) (lo := 0) (.inr ⟨s, sg, n, _, rfl, rfl, S5.out, Nat.zero_le _, Nat.zero_le _⟩))
          have hv : pickA n L xp (some (n, F13 n xb)) xz = -1 := by unfold pickA; dsimp only; rw [if_pos rfl, hof]
          rw [hv] at HPK
          clear hof hv
          go_wp2_with fail
          refine HOF.out.mono ?_; rintro e w6 ⟨rfl, rfl⟩
          go_wp2_with fail
          refine HPK.out.mono ?_; rintro e w6 ⟨rfl, m6⟩
          go_wp2_with fail
          go_ret
          exact ⟨rfl, M5.out.trans m6⟩
        | some f =>
          have HOF := Lib.hid (twoOf B5.out HI.out hof)
          have hv : pickA n L xp (some (n, F13 n xb)) xz = pickR (cF L) (fLess f (F13 n xb)) n xz := by unfold pickA; dsimp only; rw [if_pos rfl, hof]
          obtain ⟨g, hg⟩ : ∃ g, g = F13 n xb := ⟨_, rfl⟩
          rw [← hg] at hv S5
          go_wp2_with fail
          refine HOF.out.mono ?_; rintro e w6 ⟨t, tg, rfl, b6, m6, -, -⟩
          have HPK := Lib.hid (twoPick (B5.out.new m6) HI.out xz (so := some s) (x := some (n, g)) (lo := 0) (.inr ⟨s, sg, n, _, rfl, rfl, S5.out.mod m6 (fun h => h) (fun h => h), Nat.zero_le _, Nat.zero_le _⟩))
          rw [hv] at HPK
          have S6 := Lib.hid (S5.out.mod m6 (fun h => h) (fun h => h))
          have T6 := Lib.hid b6
          have B6 := Lib.hid (B5.out.new m6)
          have M6 := Lib.hid (M5.out.trans m6)
          have f1 := m6.cell c1 (fun h => h); have f4 := m6.cell c4 (fun h => h)
          have HPO := Lib.hid (pickR_ok (cF L) (fLess f g) n xz)
          obtain ⟨v, hvv⟩ : ∃ v, v = pickR (cF L) (fLess f g) n xz := ⟨_, rfl⟩
          rw [← hvv] at HPK HPO
          clear hof hv hg b6 m6 hvv S5 B5 M5 X5 HOF c1 c4
          go_wp2_with fail
          refine HPK.out.mono ?_; rintro e w7 ⟨rfl, m7⟩
          have S7 := Lib.hid (S6.out.mod m7 (fun h => h) (fun h => h))
          have T7 := Lib.hid (T6.out.mod m7 (fun h => h) (fun h => h))
          have B7 := Lib.hid (B6.out.new m7)
          have M7 := Lib.hid (M6.out.trans m7)
          clear m7 f1 f4 S6 T6 B6 M6 HPK
          rcases HPO.out with ⟨rfl, hno⟩ | ⟨z, rfl, hz, hF, hany, hle⟩
          · have HNO := Lib.hid hno
            clear hno HPO
            go_wp2_with fail
            go_loopw [18, 19] (fun a i wr => ∃ m : Nat, i = .int .i64 m ∧ m ≤ n ∧ a = .bool false ∧ wr = w7) (fun _ i _ => n - (intOf i).toNat)
            case atStart => exact ⟨0, rfl, Nat.zero_le _, rfl, rfl⟩
            case round =>
              obtain ⟨m, rfl, hm', rfl, rfl⟩ := hrel
              by_cases hlt : (m : Int) < n
              · have HH1 := Lib.hid (bitsHas t tg n f m wr T7.out)
                have HH2 := Lib.hid (bitsHas s sg n g m wr S7.out)
                rw [hasB_nat] at HH1 HH2
                have hFm : (f m && !g m) = false := HNO.out m (by omega)
                cases hfm : f m with
                | false =>
                  rw [hfm] at HH1
                  clear hfm hFm
                  go_wp2_with fail
                  refine HH1.out.mono ?_; rintro e w8 ⟨rfl, rfl⟩
                  go_wp2_with fail
                  exact ⟨⟨m + 1, by go_num, by omega, rfl, trivial⟩, by simp [intOf]; omega⟩
                | true =>
                  have hgm : g m = true := by rw [hfm] at hFm; simpa using hFm
                  rw [hfm] at HH1
                  rw [hgm] at HH2
                  clear hfm hFm hgm
                  go_wp2_with fail
                  refine HH1.out.mono ?_; rintro e w8 ⟨rfl, rfl⟩
                  go_wp2_with fail
                  refine HH2.out.mono ?_; rintro e w8 ⟨rfl, rfl⟩
                  go_wp2_with fail
                  exact ⟨⟨m + 1, by go_num, by omega, rfl, trivial⟩, by simp [intOf]; omega⟩
              · go_wp2_with fail
                go_ret
                exact ⟨rfl, M7.out⟩
          · have HZ := Lib.hid hz
            have hznn : ¬ (z : Int) < 0 := by omega
            have hzge : (0 : Int) ≤ z := by omega
            have hzn : (z : Int) < n := by omega
            have HAN := Lib.hid hany
            have HLE := Lib.hid hle
            have HFZ : Hid (f z = true ∧ g z = false) := by
              have h : (f z && !g z) = true := hF
              rw [Bool.and_eq_true] at h
              exact ⟨h.1, by simpa using h.2⟩
            clear hz hF hany hle HPO
            go_wp2_with fail
            go_loopw [18, 19] (fun a i wr => ∃ m : Nat, i = .int .i64 m ∧ m ≤ n ∧ a = .bool (anyB (fLess f g) m) ∧ wr = w7) (fun _ i _ => n - (intOf i).toNat)
            case atStart => exact ⟨0, rfl, Nat.zero_le _, rfl, rfl⟩
            case round =>
              obtain ⟨m, rfl, hm', rfl, rfl⟩ := hrel
              by_cases hlt : (m : Int) < n
              · have HH1 := Lib.hid (bitsHas t tg n f m wr T7.out)
                have HH2 := Lib.hid (bitsHas s sg n g m wr S7.out)
                rw [hasB_nat] at HH1 HH2
                have hA : anyB (fLess f g) (m + 1) = (anyB (fLess f g) m || (f m && !g m)) := rfl
                obtain ⟨A, hAA⟩ : ∃ A, A = anyB (fLess f g) m := ⟨_, rfl⟩
                rw [← hAA] at hA ⊢
                clear hAA
                cases hfm : f m with
                | false =>
                  rw [hfm] at HH1 hA
                  rw [Bool.false_and, Bool.or_false] at hA
                  have HA := Lib.hid hA
                  clear hfm hA
                  cases A with
                  | false =>
                    go_wp2_with fail
                    refine HH1.out.mono ?_; rintro e w8 ⟨rfl, rfl⟩
                    go_wp2_with fail
                    exact ⟨⟨m + 1, by go_num, by omega, by rw [HA.out], trivial⟩, by simp [intOf]; omega⟩
                  | true =>
                    go_wp2_with fail
                    refine HH1.out.mono ?_; rintro e w8 ⟨rfl, rfl⟩
                    go_wp2_with fail
                    exact ⟨⟨m + 1, by go_num, by omega, by rw [HA.out], trivial⟩, by simp [intOf]; omega⟩
                | true =>
                  cases hgm : g m with
                  | true =>
                    rw [hfm] at HH1
                    rw [hgm] at HH2
                    rw [hfm, hgm] at hA
                    have hA' : anyB (fLess f g) (m + 1) = A := by rw [hA]; cases A <;> rfl
                    have HA := Lib.hid hA'
                    clear hfm hgm hA hA'
                    cases A with
                    | false =>
                      go_wp2_with fail
                      refine HH1.out.mono ?_; rintro e w8 ⟨rfl, rfl⟩
                      go_wp2_with fail
                      refine HH2.out.mono ?_; rintro e w8 ⟨rfl, rfl⟩
                      go_wp2_with fail
                      exact ⟨⟨m + 1, by go_num, by omega, by rw [HA.out], trivial⟩, by simp [intOf]; omega⟩
                    | true =>
                      go_wp2_with fail
                      refine HH1.out.mono ?_; rintro e w8 ⟨rfl, rfl⟩
                      go_wp2_with fail
                      refine HH2.out.mono ?_; rintro e w8 ⟨rfl, rfl⟩
                      go_wp2_with fail
                      exact ⟨⟨m + 1, by go_num, by omega, by rw [HA.out], trivial⟩, by simp [intOf]; omega⟩
                  | false =>
                    have hA' : anyB (fLess f g) (m + 1) = true := by rw [hA, hfm, hgm]; cases A <;> rfl
                    have HA := Lib.hid hA'
                    have hc := HLE.out m (by omega) (by show (f m && !g m) = true; rw [hfm, hgm]; rfl)
                    have HCM := Lib.hid (twoHow B7.out m)
                    have HCZ := Lib.hid (twoHow B7.out z)
                    have e1 : cntR (cF L) n m = cF L m := by unfold cntR; rw [if_pos ⟨by omega, hlt⟩]; rfl
                    have e2 : cntR (cF L) n z = cF L z := by unfold cntR; rw [if_pos ⟨by omega, hzn⟩]; rfl
                    rw [e1] at HCM
                    rw [e2] at HCZ
                    obtain ⟨u1, hu1⟩ : ∃ u, u = cF L m := ⟨_, rfl⟩
                    obtain ⟨u2, hu2⟩ : ∃ u, u = cF L z := ⟨_, rfl⟩
                    rw [← hu1] at HCM hc
                    rw [← hu2] at HCZ hc
                    have hc' : ¬ u1 < u2 := by omega
                    rw [hfm] at HH1
                    rw [hgm] at HH2
                    clear hfm hgm hA hA' e1 e2 hu1 hu2 hc
                    cases A with
                    | false =>
                      go_wp2_with fail
                      refine HH1.out.mono ?_; rintro e w8 ⟨rfl, rfl⟩
                      go_wp2_with fail
                      refine HH2.out.mono ?_; rintro e w8 ⟨rfl, rfl⟩
                      go_wp2_with fail
                      refine HCM.out.mono ?_; rintro e w8 ⟨rfl, rfl⟩
                      go_wp2_with fail
                      refine HCZ.out.mono ?_; rintro e w8 ⟨rfl, rfl⟩
                      go_wp2_with fail
                      exact ⟨⟨m + 1, by go_num, by omega, by rw [HA.out], trivial⟩, by simp [intOf]; omega⟩
                    | true =>
                      go_wp2_with fail
                      refine HH1.out.mono ?_; rintro e w8 ⟨rfl, rfl⟩
                      go_wp2_with fail
                      refine HH2.out.mono ?_; rintro e w8 ⟨rfl, rfl⟩
                      go_wp2_with fail
                      refine HCM.out.mono ?_; rintro e w8 ⟨rfl, rfl⟩
                      go_wp2_with fail
                      refine HCZ.out.mono ?_; rintro e w8 ⟨rfl, rfl⟩
                      go_wp2_with fail
                      exact ⟨⟨m + 1, by go_num, by omega, by rw [HA.out], trivial⟩, by simp [intOf]; omega⟩
              · have hmn : m = n := by omega
                rw [hmn, HAN.out]
                have HH1 := Lib.hid (bitsHas t tg n f z wr T7.out)
                have HH2 := Lib.hid (bitsHas s sg n g z wr S7.out)
                rw [hasB_nat, HFZ.out.1] at HH1
                rw [hasB_nat, HFZ.out.2] at HH2
                clear hlt
                go_wp2_with fail
                refine HH1.out.mono ?_; rintro e w8 ⟨rfl, rfl⟩
                go_wp2_with fail
                refine HH2.out.mono ?_; rintro e w8 ⟨rfl, rfl⟩
                go_wp2_with fail
                go_ret
                exact ⟨rfl, M7.out⟩
end Go.Proofs.YtegmgflplhpacaaDoor
