/- The walk of the statement RarestCounts: the call returns true and turns nothing that was there; no condition but the table. -/
import Derived.Test.YtegmgflplhpacaaDoorRcD
import Derived.Deep.CutBlock
import Derived.Deep.CutRange
namespace Go.Proofs.YtegmgflplhpacaaDoor
open Go Go.RowKit

theorem Sl.form {w : World} {v : Value} {size n : Nat} {xs : List Value} (h : Sl w v size n xs) : ∃ a c, v = .slice a n c ∧ ∀ j u, xs[j]? = some u → ∃ x, a = some x ∧ w.cell? (x.add j) = some u := by
  rcases h with ⟨rfl, rfl, rfl⟩ | ⟨x, c, rfl, _, h2⟩
  · exact ⟨none, 0, rfl, fun j u h => by simp at h⟩
  · exact ⟨some x, c, rfl, fun j u h => ⟨x, rfl, h2 j u h⟩⟩
theorem sm_add (g h : Nat → Int) : ∀ m, sm (fun i => g i + h i) m = sm g m + sm h m
  | 0 => rfl
  | m + 1 => by
    show sm (fun i => g i + h i) m + (g m + h m) = sm g m + g m + (sm h m + h m)
    rw [sm_add g h m]; omega
theorem sm_cnt (f : Nat → Bool) : ∀ m, sm (fun j => if f j = true then (1 : Int) else 0) m = (cnt f m : Int)
  | 0 => rfl
  | m + 1 => by
    show sm _ m + _ = ((cnt f m + _ : Nat) : Int)
    rw [sm_cnt f m]
    by_cases h : f m = true <;> simp [h]
/-- How many pieces all have. -/
def allC (n : Nat) (L : LB) : Int := (L.map fun q => (cnt q.2 n : Int)).sum
theorem allC_cons (n : Nat) (q : Int × (Nat → Bool)) (t : LB) : allC n (q :: t) = (cnt q.2 n : Int) + allC n t := by unfold allC; rw [List.map_cons, List.sum_cons]
theorem allC_snoc (n : Nat) (q : Int × (Nat → Bool)) (t : LB) : allC n (t ++ [q]) = allC n t + (cnt q.2 n : Int) := by
  unfold allC
  rw [List.map_append, List.sum_append]
  simp
theorem allC_bd (n : Nat) : ∀ L : LB, 0 ≤ allC n L ∧ allC n L ≤ L.length * n
  | [] => by simp [allC]
  | q :: t => by
    have := allC_bd n t
    have := cnt_le q.2 n
    rw [allC_cons, List.length_cons, show ((t.length + 1 : Nat) : Int) * n = t.length * n + n by rw [Int.natCast_add, Int.add_mul]; simp]
    omega
/-- Both sums are one. -/
theorem sum_all (n : Nat) : ∀ L : LB, sm (cF L) n = allC n L
  | [] => by
    have : ∀ m, sm (cF []) m = 0 := by
      intro m
      induction m with
      | zero => rfl
      | succ m ih => show sm (cF []) m + cF [] m = 0; rw [ih]; rfl
    rw [this]; rfl
  | q :: t => by
    rw [allC_cons, ← sum_all n t, ← sm_cnt, ← sm_add]
    refine sm_ext fun i _ => ?_
    unfold cF
    rw [List.map_cons, List.sum_cons]
theorem sm_cF_bd (L : LB) : ∀ m, 0 ≤ sm (cF L) m ∧ sm (cF L) m ≤ L.length * m
  | 0 => by simp [sm]
  | m + 1 => by
    have := sm_cF_bd L m
    have := cF_bd L m
    show 0 ≤ sm (cF L) m + cF L m ∧ sm (cF L) m + cF L m ≤ L.length * ((m + 1 : Nat) : Int)
    rw [show (L.length : Int) * ((m + 1 : Nat) : Int) = L.length * m + L.length by rw [Int.natCast_add, Int.mul_add]; simp]
    omega

set_option maxRecDepth 100000 in
set_option maxHeartbeats 4000000 in
theorem rarestCounts_walk (p : Int) (a1 : Option Addr) (len1 cap1 : Nat) (l : List Sb) (w : World) (hT : TabW w) (_ : (Lit.int .i64 p).wf = true) (hl : IsSbs w a1 len1 l) :
    Calls Tryd.prog 7 #[.int .i64 p, .slice a1 len1 cap1] w fun e w' => e = .returned (.bool true) ∧ Below w.heap.size w w' := by
  refine Calls.mono (R := fun e w' => e = .returned (.bool true) ∧ Mod (fun _ => False) w w') ?_ (fun e w' ⟨h1, h2⟩ => ⟨h1, h2.bel⟩)
  have HL := Lib.hid hl
  have HT := Lib.hid hT
  have HAW := Lib.hid (awake13 w hT)
  have hll : (len1 : Int) ≤ 9223372036854775807 := hl.2.1
  clear hl hT
  by_cases hp1 : p < 1
  · go_enter Tryd.func7, Tryd.ntmps7
    go_wp2_with fail
    refine HAW.out.mono ?_; rintro e w1 ⟨rfl, m1⟩
    go_wp2_with fail
    go_ret
    exact ⟨rfl, m1⟩
  · by_cases hp2 : 100 < p
    · go_enter Tryd.func7, Tryd.ntmps7
      go_wp2_with fail
      refine HAW.out.mono ?_; rintro e w1 ⟨rfl, m1⟩
      go_wp2_with fail
      go_ret
      exact ⟨rfl, m1⟩
    · obtain ⟨n, rfl⟩ : ∃ n : Nat, p = (n : Int) := ⟨p.toNat, by omega⟩
      have HOKB : Hid (BoardOk n 5) := by show BoardOk n 5; unfold BoardOk; omega
      have HN := Lib.hid (show 1 ≤ n ∧ n ≤ 100 by omega)
      go_enter Tryd.func7, Tryd.ntmps7
      go_wp2_with fail
      refine HAW.out.mono ?_; rintro e w1 ⟨rfl, m1⟩
      have M1 := Lib.hid m1
      have HT1 := Lib.hid (HT.out.mod m1 (fun h => h))
      clear m1 HAW
      have HRN := Lib.hid (rareNew n 5 w1 HOKB.out HT1.out)
      go_wp2_with fail
      refine HRN.out.mono ?_; rintro e w2 ⟨rfl, h2, m2, z2⟩
      obtain ⟨b, hb⟩ : ∃ b, b = w1.heap.size + 2 := ⟨_, rfl⟩
      obtain ⟨M, hM⟩ : ∃ b, b = w1.heap.size := ⟨_, rfl⟩
      obtain ⟨g, hg⟩ : ∃ b, b = w1.heap.size + 1 := ⟨_, rfl⟩
      rw [← hb, ← hg, ← hM] at h2
      rw [← hb]
      have HLO : Hid (w.heap.size ≤ b ∧ w.heap.size ≤ M ∧ w.heap.size ≤ g) := by have := M1.out.size; show _ ∧ _ ∧ _; omega
      have H2 := Lib.hid h2
      have M2 := Lib.hid (M1.out.trans m2)
      clear hb hM hg h2 m2 z2 HRN M1 HT1
      have HRN := Lib.hid (refRNew n 5 w2 HOKB.out)
      go_wp2_with fail
      refine HRN.out.mono ?_; rintro e w3 ⟨rfl, h3, m3, z3⟩
      have TW := Lib.hid (TwoP.start HOKB.out HT.out H2.out M2.out HLO.out h3 rfl m3 z3)
      have M3 := Lib.hid (M2.out.trans m3)
      obtain ⟨b', hb'⟩ : ∃ b, b = w2.heap.size := ⟨_, rfl⟩
      rw [← hb'] at TW ⊢
      clear hb' h3 m3 z3 HRN H2 M2 HLO
      clear hp1 hp2
      go_upto_block 0 with fail
      go_cut [10] from 46 to 62 (fun v wx => ∃ L : LB, Hid (TwoP wx w.heap.size b b' n 5 L) ∧ Mod (fun _ => False) w wx)
      case first =>
        go_wp2_with fail
        go_loopw [10] (fun v wr => ∃ (k : Nat) (L : LB), v = .int .i64 k ∧ k ≤ len1 ∧ k ≤ 60 ∧ Hid (TwoP wr w.heap.size b b' n 5 L) ∧ Mod (fun _ => False) w wr) (fun v _ => 60 - (intOf v).toNat)
        case atStart => exact ⟨0, [], rfl, Nat.zero_le _, Nat.zero_le _, TW, M3.out⟩
        case round =>
          obtain ⟨k, L, rfl, hk, hk100, hB, hm⟩ := hrel
          by_cases hlt : k < len1 ∧ k < 60
          · obtain ⟨hlt1, hlt2⟩ := hlt
            have hlt2' : (k : Int) < 60 := by omega
            obtain ⟨t, ht⟩ : ∃ t, l[k]? = some t := ⟨_, List.getElem?_eq_getElem (by rw [HL.out.1]; exact hlt1)⟩
            obtain ⟨hot, X, rfl, c0, c1, c2, c3, c4⟩ := (HL.out.below hm.bel).2.2 k t ht
            have HO := Lib.hid hot
            have HTT := Lib.hid ht
            have HM := Lib.hid hm
            have hlt1' : (k : Int) < len1 := by omega
            clear ht hot hm
            have HST := Lib.hid (step13 t w.heap.size b b' n 5 L wr hB.out HO.out)
            go_wp2_with fail
            refine HST.out.mono ?_; rintro e w5 ⟨rfl, b5, m5⟩
            have hm5 : Mod (fun _ => False) w w5 := HM.out.new m5 (fun i hi => hi)
            obtain ⟨L5, hL5⟩ : ∃ x, x = stepA n 5 L t := ⟨_, rfl⟩
            rw [← hL5] at b5
            have B5 := Lib.hid b5
            have HM5 := Lib.hid hm5
            clear b5 m5 hm5 hL5 hB HM HST c0 c1 c2 c3 c4
            go_wp2_with fail
            exact ⟨⟨k + 1, L5, by go_num, by omega, by omega, B5, HM5.out⟩, by simp [intOf]; omega⟩
          · have hend : (k : Int) < len1 → ¬ (k : Int) < 60 := by omega
            by_cases h6 : (k : Int) < len1
            · have h7 : ¬ (k : Int) < 60 := hend h6
              clear hend
              go_wp2_with fail
              go_meet
              exact ⟨L, hB, hm⟩
            · clear hend
              go_wp2_with fail
              go_meet
              exact ⟨L, hB, hm⟩
      case rest =>
        obtain ⟨L, B4, hm4⟩ := hcut
        obtain ⟨w4, hw4⟩ : ∃ w4 : World, w4 = wc := ⟨_, rfl⟩
        rw [← hw4] at B4 hm4 ⊢
        have M4 := Lib.hid hm4
        have HLL := Lib.hid (B4.out.ok.2.2.2.2)
        have HL5 := Lib.hid (B4.out.ok.1.len)
        clear hm4 hw4 TW M3
        have hn100 := HN.out.2
        have HRI := Lib.hid B4.out.ok.1.rise
        have HKI := Lib.hid B4.out.ok.1.i64
        go_wp2_with fail
        go_loopw [11, 12] (fun v i wr => ∃ m : Nat, i = .int .i64 m ∧ m ≤ n ∧ v = .int .i64 (sm (cF L) m) ∧ wr = w4) (fun _ i _ => n - (intOf i).toNat)
        case atStart => exact ⟨0, rfl, Nat.zero_le _, rfl, rfl⟩
        case round =>
          obtain ⟨m, rfl, hm', rfl, rfl⟩ := hrel
          by_cases hlt : (m : Int) < n
          · have HC := Lib.hid (twoHow B4.out m)
            have hv : cntR (cF L) n m = cF L m := by unfold cntR; rw [if_pos ⟨by omega, hlt⟩]; rfl
            rw [hv] at HC
            have h1 := cF_bd L m
            have h2 := sm_cF_bd L m
            have h3 : (L.length : Int) * m ≤ 64 * m := Int.mul_le_mul_of_nonneg_right (by have := HLL.out; omega) (by omega)
            have hT : sm (cF L) (m + 1) = sm (cF L) m + cF L m := rfl
            obtain ⟨x, hx⟩ : ∃ x, x = sm (cF L) m := ⟨_, rfl⟩
            obtain ⟨y, hy⟩ : ∃ x, x = cF L m := ⟨_, rfl⟩
            rw [← hx, ← hy] at hT
            rw [← hy] at HC h1
            rw [← hx] at h2 ⊢
            have hw : IntKind.i64.wrap (x + y) = x + y := by have := HLL.out; unfold IntKind.wrap; simp [IntKind.bits, IntKind.signed]; omega
            have HTT := Lib.hid hT
            clear hv h1 h2 h3 hT hx hy
            go_wp2_with fail
            refine HC.out.mono ?_; rintro e w5 ⟨rfl, rfl⟩
            go_wp2_with fail
            exact ⟨⟨m + 1, by go_num, by omega, by rw [HTT.out], trivial⟩, by simp [intOf]; omega⟩
          · have hmn : m = n := by omega
            subst hmn
            rw [sum_all]
            clear hlt
            have HP := Lib.hid (twoPeers B4.out)
            go_wp2_with fail
            refine HP.out.mono ?_; rintro e w6 ⟨v6, rfl, o6, m6⟩
            have hlk : (keysL L).length = L.length := by simp [keysL]
            rw [hlk] at o6
            obtain ⟨a6, c6, rfl, f6⟩ := Sl.form o6.sl
            have F6 := Lib.hid f6
            have B6 := Lib.hid (B4.out.new m6)
            have M6 := Lib.hid (M4.out.trans m6)
            obtain ⟨S, hS⟩ : ∃ x, x = allC m L := ⟨_, rfl⟩
            rw [← hS]
            have HS := Lib.hid hS
            have h64 := HLL.out
            clear o6 f6 hlk m6 hS B4 M4 HP
            go_wp2_with fail
            go_loopw [13, 15] (fun v i wr => ∃ j : Nat, i = .int .i64 j ∧ j ≤ L.length ∧ v = .int .i64 (allC m (L.take j)) ∧ Hid (Mod (fun _ => False) w6 wr)) (fun _ i _ => L.length - (intOf i).toNat)
            case atStart => exact ⟨0, rfl, Nat.zero_le _, rfl, Mod.refl _ _⟩
            case round =>
              obtain ⟨j, rfl, hj, rfl, hmr⟩ := hrel
              by_cases hlt : (j : Int) < L.length
              · obtain ⟨⟨id, f⟩, hq⟩ : ∃ q, L[j]? = some q := ⟨_, List.getElem?_eq_getElem (by omega)⟩
                have hmem := List.mem_of_getElem? hq
                obtain ⟨X, rfl, c0⟩ := F6.out j (.int .i64 id) (by unfold intL keysL; simp [hq])
                have c1 := hmr.out.cell c0 (fun h => h)
                have B7 := Lib.hid (B6.out.new hmr.out)
                have HOF := Lib.hid (twoOf B7.out (HKI.out _ hmem) (lk_of_mem HRI.out hmem))
                have hT : allC m (L.take (j + 1)) = allC m (L.take j) + (cnt f m : Int) := by
                  rw [List.take_add_one, hq]
                  exact allC_snoc _ _ _
                have h1 := allC_bd m (L.take j)
                have h2 : (L.take j).length ≤ 64 := by have : (L.take j).length ≤ j := List.length_take_le _ _; omega
                have h3 : ((L.take j).length : Int) * m ≤ 64 * m := Int.mul_le_mul_of_nonneg_right (by omega) (by omega)
                have h4 := cnt_le f m
                obtain ⟨x, hx⟩ : ∃ x, x = allC m (L.take j) := ⟨_, rfl⟩
                rw [← hx] at hT h1 ⊢
                have hw : IntKind.i64.wrap (x + (cnt f m : Int)) = x + (cnt f m : Int) := by unfold IntKind.wrap; simp [IntKind.bits, IntKind.signed]; omega
                have HTT := Lib.hid hT
                clear hq hmem hT h1 h2 h3 h4 hx c0
                go_wp2_with fail
                refine HOF.out.mono ?_; rintro e w8 ⟨s, sg, rfl, b8, m8, -, -⟩
                have M8 := Lib.hid (hmr.out.trans m8)
                have HL8 := Lib.hid (bitsLen s sg m f w8 b8)
                have HC8 := Lib.hid (bitsCount s sg m f w8 b8)
                clear b8 m8 c1 hmr HOF B7
                go_wp2_with fail
                refine HL8.out.mono ?_; rintro e w9 ⟨rfl, rfl⟩
                go_wp2_with fail
                refine HC8.out.mono ?_; rintro e w9 ⟨rfl, rfl⟩
                go_wp2_with fail
                exact ⟨⟨j + 1, by go_num, by omega, by rw [HTT.out], M8⟩, by simp [intOf]; omega⟩
              · have hjl : j = L.length := by omega
                rw [hjl, List.take_length, ← HS.out]
                have h5 : (L.length : Int) ≤ 5 := HL5.out
                clear hlt
                go_wp2_with fail
                go_ret
                exact ⟨by simp, M6.out.trans hmr.out⟩
end Go.Proofs.YtegmgflplhpacaaDoor
