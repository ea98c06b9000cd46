/- The reference of strikes: Strike; no condition. -/
import Derived.Test.YtiabjaaamgjlnaaSrC
import Derived.Deep.CutBlock
import Derived.Deep.CutRange
namespace Go.Proofs.Ytiabjaaamgjlnaa
open Go Go.RowKit

/-- Where one is put in. -/
theorem ins_at {α : Type} (x : Int × α) : ∀ (ks : List (Int × α)) (k : Nat), (∀ (j : Nat) (q : Int × α), j < k → ks[j]? = some q → q.1 < x.1) → k ≤ ks.length → (∀ q, ks[k]? = some q → x.1 < q.1) → insS x ks = ks.take k ++ x :: ks.drop k
  | [], k, _, hk, _ => by simp at hk; subst hk; rfl
  | y :: t, 0, _, _, h2 => by
    have := h2 y rfl
    unfold insS
    rw [if_pos this]
    rfl
  | y :: t, k + 1, h1, hk, h2 => by
    have := h1 0 y (by omega) rfl
    unfold insS
    rw [if_neg (by omega), ins_at x t k (fun j q hj hq => h1 (j + 1) q (by omega) (by simpa using hq)) (by simpa using hk) (fun q hq => h2 q (by simpa using hq))]
    rfl
theorem rd_none {ks : List (Int × Rc)} {id : Int} (h : lkL ks id = none) : rd ks id = ⟨0, 0, 0⟩ := by unfold rd; rw [h]; rfl

set_option maxRecDepth 100000 in
set_option maxHeartbeats 4000000 in
theorem refStrikeX (id now by' : Int) (b base : Nat) (lim ban most : Int) (ks : List (Int × Rc)) (w : World) (hi : 1 ≤ id) (hi2 : id ≤ 65536) (hn : 0 ≤ now) (hn2 : now ≤ 1099511627776) (hb : 0 ≤ by') (hb2 : by' ≤ 1048576) (h : RB w b base lim ban most ks) (hnb : bnd ks id now = false) (hr : Rising ks) (hbase : base ≤ w.heap.size)
    (hs : 0 ≤ (rd ks id).s ∧ (rd ks id).s ≤ 1000000 ∧ 0 ≤ (rd ks id).u ∧ (rd ks id).u ≤ 2199023255552 ∧ 0 ≤ (rd ks id).b ∧ (rd ks id).b ≤ 1152921504606846976) (hban : 0 ≤ ban) (hban2 : ban ≤ 1048576) (hu : OkU (putL ks id (strX lim ban (rd ks id) now by')))
    (hlen : (putL ks id (strX lim ban (rd ks id) now by')).length ≤ 1000) (hlen2 : ks.length ≤ 999) :
    Calls Try.prog 27 #[.pointer (some ⟨b, 0, none⟩), .int .i64 id, .int .i64 now, .int .i64 by'] w fun e w' =>
      e = .returned (.tuple #[.bool (decide (0 < (rd (cutX most (putL ks id (strX lim ban (rd ks id) now by'))) id).u)), .int .i64 0]) ∧ RB w' b base lim ban most (cutX most (putL ks id (strX lim ban (rd ks id) now by'))) ∧ Mod (· = b) w w' := by
  have e1 : (decide (1 ≤ id) && decide (id ≤ 65536)) = true := by simp [hi, hi2]
  have e2 : (decide (0 ≤ now) && decide (now ≤ 1099511627776)) = true := by simp [hn, hn2]
  have g1 : ¬ by' < 0 := by omega
  have g2 : ¬ 1048576 < by' := by omega
  obtain ⟨N, hN⟩ : ∃ N, N = strX lim ban (rd ks id) now by' := ⟨_, rfl⟩
  rw [← hN] at hu hlen ⊢
  have hrk : Rising (putL ks id N) := rising_put hr id N
  obtain ⟨k2, hk2⟩ : ∃ k2, k2 = putL ks id N := ⟨_, rfl⟩
  rw [← hk2] at hu hlen hrk ⊢
  have HRK := Lib.hid hrk
  have HK2 := Lib.hid hk2
  clear hk2 hrk
  obtain ⟨r0, hr0⟩ : ∃ r0, r0 = rd ks id := ⟨_, rfl⟩
  rw [← hr0] at hN hs
  obtain ⟨s, u, bb⟩ := r0
  dsimp only at hs
  obtain ⟨xs, xb, hx⟩ : ∃ xs xb, (0 < u → xs = 0 ∧ xb = 0) ∧ (u = 0 → xs = s ∧ xb = bb) := by
    by_cases h : 0 < u
    · exact ⟨0, 0, fun _ => ⟨rfl, rfl⟩, fun e => by omega⟩
    · exact ⟨s, bb, fun e => absurd e h, fun _ => ⟨rfl, rfl⟩⟩
  have hNN : N = ⟨xs + 1, if lim ≤ xs + 1 then now + ban else 0, xb + by'⟩ := by
    rw [hN]
    unfold strX
    by_cases h : 0 < u
    · simp only [h, if_true]
      rw [(hx.1 h).1, (hx.1 h).2]
    · simp only [h, if_false]
      rw [(hx.2 (by omega)).1, (hx.2 (by omega)).2]
  have hxs : 0 ≤ xs ∧ xs ≤ 1000000 ∧ 0 ≤ xb ∧ xb ≤ 1152921504606846976 := by
    by_cases h : 0 < u
    · have := hx.1 h; omega
    · have := hx.2 (by omega); omega
  have HS := Lib.hid hs
  have HX := Lib.hid hx
  have HXS := Lib.hid hxs
  have H := Lib.hid h
  have HR := Lib.hid hr
  have HR0 := Lib.hid hr0
  have HLN := Lib.hid hlen
  have HLN2 := Lib.hid hlen2
  have HN := Lib.hid hNN
  have HU := Lib.hid hu
  have HBA := Lib.hid hbase
  clear h hlen hN hu hlen2 hs hx hxs hNN hr0 hr hbase
  go_enter Try.func27, Try.ntmps27
  go_wp2_with fail
  refine (refId _ _).mono ?_; rw [e1]; rintro e w' ⟨rfl, rfl⟩
  go_wp2_with fail
  refine (refMoment _ _).mono ?_; rw [e2]; rintro e w' ⟨rfl, rfl⟩
  go_wp2_with fail
  refine (refBanned _ _ _ _ _ _ _ _ _ H.out (by have := HLN2.out; omega) HR.out).mono ?_; rw [hnb]; rintro e w' ⟨rfl, rfl⟩
  clear e1 e2 hnb g1 g2
  have m1 := (Mod.refl (fun _ => False) w).alloc (.cells #[.int .i64 id, .int .i64 0, .int .i64 0, .int .i64 0] TKn)
  have B1 := Lib.hid (Blk.new w #[.int .i64 id, .int .i64 0, .int .i64 0, .int .i64 0] TKn)
  have M1 := Lib.hid m1
  have H1 := Lib.hid (H.out.new m1)
  clear m1
  go_wp2_with fail
  obtain ⟨B, hB⟩ : ∃ B, B = w.heap.size := ⟨_, rfl⟩
  generalize w.alloc (.cells #[.int .i64 id, .int .i64 0, .int .i64 0, .int .i64 0] TKn) = w1 at *
  rw [← hB] at B1 ⊢
  have HB := Lib.hid hB
  have hbB : b < B := by have := H.out.lt; have := HBA.out; omega
  clear hB
  refine (refFind id _ _ _ _ _ _ _ H1.out (by have := HLN2.out; omega)).mono ?_; rintro e w' ⟨⟨v, rfl, hv⟩, rfl⟩
  have HV := Lib.hid hv
  clear hv
  go_upto_if 48 with fail
  go_cut [13] from 47 to 67 (fun p wx => p = .pointer (some ⟨B, 0, none⟩) ∧ Hid (Blk wx B #[.int .i64 id, .int .i64 xs, .int .i64 0, .int .i64 xb] TKn) ∧ Hid (RBA wx b base B lim ban most (delL ks id)) ∧ Hid (Mod (· = b) w wx))
  case first =>
    rcases HV.out with ⟨rfl, hn⟩ | ⟨i, r, rfl, hi⟩
    · have HD := Lib.hid (del_of_none hn)
      have hz : (⟨s, u, bb⟩ : Rc) = ⟨0, 0, 0⟩ := HR0.out.trans (rd_none hn)
      have hx0 := HX.out.2 (by cases hz; rfl)
      have HXB := Lib.hid (show xs = 0 ∧ xb = 0 by cases hz; exact hx0)
      clear hn hz hx0
      go_wp2_with fail
      go_meet
      refine ⟨rfl, ?_, ?_, M1.out.mono (fun _ _ h => h.elim)⟩
      · show Blk _ _ _ _
        rw [HXB.out.1, HXB.out.2]
        exact B1.out
      · show RBA _ _ _ _ _ _ _ _
        rw [HD.out]
        exact H.out.av M1.out (Nat.le_of_eq HB.out.symm)
    · have hz : (⟨s, u, bb⟩ : Rc) = r := HR0.out.trans (rd_at HR.out hi)
      obtain ⟨a, cap, _, _, _, c3, _, he, _, _, hcap⟩ := H1.out.at
      obtain ⟨X, rfl, p0, p1, p2, p3⟩ := recEl he.out (Nat.le_refl _) hi
      have hil : (i : Int) < ks.length := by have := (List.getElem?_eq_some_iff.1 hi).1; omega
      have HIL := Lib.hid (List.getElem?_eq_some_iff.1 hi).1
      have HD := Lib.hid (del_at HR.out hi)
      subst hz
      dsimp only at p0 p1 p2 p3
      clear hi
      by_cases hu : 0 < u
      · have hu' : (u == 0) = false := by simp; omega
        have hxx := HX.out.1 hu
        have HXX := Lib.hid hxx
        have HRC := Lib.hid (refCut i b base lim ban most ks w1 H1.out (by have := HLN2.out; omega) HIL.out)
        have HBS := Lib.hid (show B < w1.heap.size from B1.out.lt)
        clear hxx
        go_wp2_with fail
        refine HRC.out.mono ?_; rintro e w3 ⟨rfl, t3, m3⟩
        go_wp2_with fail
        go_meet
        refine ⟨rfl, ?_, ?_, (M1.out.mono (fun _ _ h => h.elim)).trans m3⟩
        · show Blk _ _ _ _
          rw [HXX.out.1, HXX.out.2]
          exact B1.out.mod m3 (by show ¬ B = b; omega)
        · show RBA _ _ _ _ _ _ _ _
          rw [HD.out]
          exact t3.av2 HBS.out H.out.lt (by have := HBS.out; have := HB.out; have := HBA.out; omega)
      · have hu0 : u = 0 := by have := HS.out; omega
        subst hu0
        have hxx := HX.out.2 rfl
        have HXX := Lib.hid hxx
        have f0 := B1.out.frozen 0; have f1 := B1.out.frozen 1; have f2 := B1.out.frozen 2; have f3 := B1.out.frozen 3
        have x0 := B1.out.cell 0; have x1 := B1.out.cell 1; have x2 := B1.out.cell 2; have x3 := B1.out.cell 3
        have hB1 := B1.out.lt
        have hx4 := (((B1.out.set 0 (.int .i64 id)).set 1 (.int .i64 s)).set 2 (.int .i64 0)).set 3 (.int .i64 bb)
        have hm5 := (((M1.out.setCell (p := ⟨B, 0, none⟩) (.inr (Nat.le_of_eq HB.out.symm)) (.int .i64 id)).setCell (p := ⟨B, 1, none⟩) (.inr (Nat.le_of_eq HB.out.symm)) (.int .i64 s)).setCell (p := ⟨B, 2, none⟩) (.inr (Nat.le_of_eq HB.out.symm)) (.int .i64 0)).setCell (p := ⟨B, 3, none⟩) (.inr (Nat.le_of_eq HB.out.symm)) (.int .i64 bb)
        obtain ⟨w2, hw2⟩ : ∃ w2, w2 = (((w1.setCell ⟨B, 0, none⟩ (.int .i64 id)).setCell ⟨B, 1, none⟩ (.int .i64 s)).setCell ⟨B, 2, none⟩ (.int .i64 0)).setCell ⟨B, 3, none⟩ (.int .i64 bb) := ⟨_, rfl⟩
        have H2 := Lib.hid (H.out.new hm5)
        rw [← hw2] at hx4 hm5 H2
        have X4 := Lib.hid hx4
        have M5 := Lib.hid hm5
        have HW2 := Lib.hid hw2
        have HRC := Lib.hid (refCut i b base lim ban most ks w2 H2.out (by have := HLN2.out; omega) HIL.out)
        have HBS := Lib.hid (show B < w2.heap.size from X4.out.lt)
        clear hxx hx4 hm5 hw2
        go_wp2_with fail
        rw [← HW2.out]
        refine HRC.out.mono ?_; rintro e w3 ⟨rfl, t3, m3⟩
        go_wp2_with fail
        go_meet
        refine ⟨rfl, ?_, ?_, (M5.out.mono (fun _ _ h => h.elim)).trans m3⟩
        · show Blk _ _ _ _
          rw [HXX.out.1, HXX.out.2]
          exact X4.out.mod m3 (by show ¬ B = b; omega)
        · show RBA _ _ _ _ _ _ _ _
          rw [HD.out]
          exact t3.av2 HBS.out H.out.lt (by have := HBS.out; have := HB.out; have := HBA.out; omega)
  case rest =>
    obtain ⟨rfl, X3, T3, M3⟩ := hcut
    have hxs := HXS.out
    have F3 := X3.out.frozen
    have f0 := F3 0; have f1 := F3 1; have f2 := F3 2; have f3 := F3 3
    have x0 := X3.out.cell 0; have x1 := X3.out.cell 1; have x2 := X3.out.cell 2; have x3 := X3.out.cell 3
    clear F3 M1 B1 H1
    go_upto_region 16 with fail
    have hx9 : Blk ((wc.setCell ⟨B, 1, none⟩ (.int .i64 (xs + 1))).setCell ⟨B, 3, none⟩ (.int .i64 (xb + by'))) B #[.int .i64 id, .int .i64 (xs + 1), .int .i64 0, .int .i64 (xb + by')] TKn := (X3.out.set 1 _).set 3 _
    have hm9 : Mod (· = b) w ((wc.setCell ⟨B, 1, none⟩ (.int .i64 (xs + 1))).setCell ⟨B, 3, none⟩ (.int .i64 (xb + by'))) := (M3.out.setCell (p := ⟨B, 1, none⟩) (.inr (Nat.le_of_eq HB.out.symm)) _).setCell (p := ⟨B, 3, none⟩) (.inr (Nat.le_of_eq HB.out.symm)) _
    have T9 := Lib.hid (T3.out.set (((Mod.refl (· = B) wc).set1 1 (.int .i64 (xs + 1))).set1 3 (.int .i64 (xb + by'))) (by omega))
    have X9 := Lib.hid hx9
    have M9 := Lib.hid hm9
    clear hx9 hm9 f0 f1 f2 f3 x0 x1 x2 x3 T3 X3 M3
    generalize (wc.setCell ⟨B, 1, none⟩ (.int .i64 (xs + 1))).setCell ⟨B, 3, none⟩ (.int .i64 (xb + by')) = w9 at *
    clear wc
    obtain ⟨a, cap, c0, c1, _, _, _, _, _, _, _⟩ := T9.out.rb.at
    have x1 := X9.out.cell 1; have x2 := X9.out.cell 2; have f2 := X9.out.frozen 2
    go_quiet (fail)
    go_upto_if 83 with fail
    go_cut [13] from 68 to 90 (fun p wx => p = .pointer (some ⟨B, 0, none⟩) ∧ Hid (Blk wx B #[.int .i64 id, .int .i64 N.s, .int .i64 N.u, .int .i64 N.b] TKn) ∧ Hid (RBA wx b base B lim ban most (delL ks id)) ∧ Hid (Mod (· = b) w wx))
    case first =>
      by_cases hlim : lim ≤ xs + 1
      · go_wp2_with fail
        go_meet
        refine ⟨rfl, ?_, ?_, (M9.out.drewN _).setCell (p := ⟨B, 2, none⟩) (.inr (Nat.le_of_eq HB.out.symm)) _⟩
        · show Blk _ _ _ _
          rw [HN.out, if_pos hlim]
          exact (X9.out.drewN _).set 2 _
        · exact T9.out.set (((Mod.refl (· = B) w9).drewN _).set1 2 _) (by omega)
      · have hlim' : decide (lim ≤ xs + 1) = false := by simpa using hlim
        have HLI := Lib.hid hlim
        go_wp2_with fail
        go_meet
        refine ⟨rfl, ?_, T9.out.new ((Mod.refl _ w9).drewN _), M9.out.drewN _⟩
        show Blk _ _ _ _
        rw [HN.out, if_neg (by have := HLI.out; omega)]
        exact X9.out.drewN _
    case rest =>
      obtain ⟨rfl, X3, T3, M3⟩ := hcut
      clear c0 c1 x1 x2 f2 hxs
      generalize wc = w3 at *
      obtain ⟨k1, hk1⟩ : ∃ k1, k1 = delL ks id := ⟨_, rfl⟩
      rw [← hk1] at T3
      have HK1 := Lib.hid hk1
      have HI2 : Hid (k2 = insS (id, N) k1) := by show _ = _; rw [HK2.out, hk1]; rfl
      have HNO : Hid (∀ q ∈ k1, q.1 ≠ id) := by
        intro q hq
        rw [hk1] at hq
        simpa [delL] using (List.mem_filter.1 hq).2
      have HR1 := Lib.hid (show Rising k1 by rw [hk1]; exact rising_del HR.out id)
      have HL1 : Hid (k1.length ≤ 999) := by show _ ≤ _; rw [hk1]; exact Nat.le_trans (List.length_filter_le _ _) HLN2.out
      obtain ⟨a, cap, _, _, c2, c3, f3, he, hbk, ho, hcap⟩ := T3.out.rb.at
      clear hk1 T9 X9 M9
      go_upto_block 0 with fail
      go_cut [15] from 91 to 111 (fun v wx => ∃ j : Nat, v = .int .i64 j ∧ j ≤ k1.length ∧ Hid (k2 = k1.take j ++ (id, N) :: k1.drop j) ∧ wx = w3)
      case first =>
        go_wp2_with fail
        go_loopw [15] (fun v wr => ∃ j : Nat, v = .int .i64 j ∧ j ≤ k1.length ∧ Hid (∀ (i : Nat) (q : Int × Rc), i < j → k1[i]? = some q → q.1 < id) ∧ wr = w3) (fun v _ => k1.length - (intOf v).toNat)
        case atStart => exact ⟨0, rfl, Nat.zero_le _, fun i q h => absurd h (Nat.not_lt_zero _), rfl⟩
        case round =>
          obtain ⟨j, rfl, hj, hlow, hwr⟩ := hrel
          rw [hwr]
          clear hwr
          by_cases hlt : (j : Int) < k1.length
          · obtain ⟨⟨x, r⟩, hkr⟩ : ∃ q, k1[j]? = some q := ⟨_, List.getElem?_eq_getElem (by omega)⟩
            obtain ⟨X, rfl, p0, p1, p2, p3⟩ := recEl he.out (Nat.le_refl _) hkr
            by_cases e : x < id
            · have HL : Hid (∀ (i : Nat) (q : Int × Rc), i < j + 1 → k1[i]? = some q → q.1 < id) := by
                intro i q hi hq
                by_cases ej : i = j
                · subst ej
                  rw [hkr] at hq
                  cases hq
                  exact e
                · exact hlow.out i q (by omega) hq
              have hl9 : k1.length ≤ 999 := HL1.out
              clear hkr
              go_wp2_with fail
              exact ⟨⟨j + 1, by go_num, by omega, HL, by first | trivial | rfl⟩, by simp [intOf]; omega⟩
            · have hP : k2 = k1.take j ++ (id, N) :: k1.drop j := by
                rw [HI2.out]
                refine ins_at _ k1 j hlow.out hj fun q hq => ?_
                rw [hkr] at hq
                cases hq
                have := HNO.out (x, r) (List.mem_of_getElem? hkr)
                show id < x
                simp only at this
                omega
              have HP := Lib.hid hP
              have e' : decide (x < id) = false := by simpa using e
              clear hkr hP
              go_wp2_with fail
              go_meet
              exact ⟨j, rfl, hj, HP, rfl⟩
          · have hP : k2 = k1.take j ++ (id, N) :: k1.drop j := by
              rw [HI2.out]
              refine ins_at _ k1 j hlow.out hj fun q hq => ?_
              have := (List.getElem?_eq_some_iff.1 hq).1
              omega
            have HP := Lib.hid hP
            have hlt' : decide ((j : Int) < k1.length) = false := by simpa using hlt
            clear hP
            go_wp2_with fail
            go_meet
            exact ⟨j, rfl, hj, HP, rfl⟩
      case rest =>
        obtain ⟨j, rfl, hj, HP, hwcc⟩ := hcut
        rw [hwcc]
        clear hwcc wc
        obtain ⟨B0, hB0⟩ : ∃ B, B = w3.heap.size := ⟨_, rfl⟩
        have HB0 := Lib.hid hB0
        have hbl : b < B0 := by rw [hB0]; exact hbk.out.lt
        have hbl3 : b < w3.heap.size := hbk.out.lt
        have hBl : B < B0 := by rw [hB0]; exact X3.out.lt
        have HBB := Lib.hid (show base ≤ B0 by rw [hB0]; exact Nat.le_trans HBA.out M3.out.size)
        have TK := Lib.hid (recL_takeN k1 j)
        have TD := Lib.hid (recL_dropN k1 j)
        have hjc : (j : Int) ≤ cap := by omega
        have hjc2 : (k1.length : Int) ≤ cap := by omega
        have hl9 : k1.length ≤ 999 := HL1.out
        have HCAP : Hid (a = none → k1 = [] ∧ cap = 0) := by
          intro h
          subst h
          rcases ho.out.2 with ⟨h1, h2⟩ | ⟨g, c, cur, h, _⟩
          · simp only [Value.slice.injEq] at h1
            exact ⟨List.length_eq_zero_iff.1 h1.2.1, h1.2.2⟩
          · cases h
        clear hB0
        go_upto_region 21 with fail
        go_cut [16] from 112 to 119 (fun v wx => Hid (wx.ownsRow B0 TKn 4 v j (recL (k1.take j))) ∧ Hid (Mod (fun i => B0 ≤ i) w3 wx))
        case first =>
          cases a with
          | some X =>
            go_wp2_with (at_builtin; refine appS (base := B0) rfl (.tmp 112) (.tmp 118) TKs TKn 4 rfl Try.underlying63 infoKr rfl (by decide) _ _ _ _ j (recL (k1.take j)) (by have := HB0.out; simp; omega) (owns_empty _ _ _ _ (Nat.le_of_eq HB0.out)) rfl rfl (by rw [TK.out]; exact (ho.out.sl.alloc _).head (by omega)) (recL_one _) (by decide) (by omega) ?_; intro v1 w4 o1 n1; have O1 := Lib.hid o1; have N1 := Lib.hid ((((Mod.refl (fun i => B0 ≤ i) w3).alloc (.cells #[] TKn))).trans n1); clear o1 n1)
            go_meet
            exact ⟨by simpa using O1, N1⟩
          | none =>
            obtain ⟨h1, h2⟩ := HCAP.out rfl
            have hj0 : j = 0 := by rw [h1] at hj; simpa using hj
            have HK0 := Lib.hid h1
            subst hj0
            subst h2
            clear h1
            go_wp2_with (at_builtin; refine appS (base := B0) rfl (.tmp 112) (.tmp 118) TKs TKn 4 rfl Try.underlying63 infoKr rfl (by decide) _ _ _ _ 0 [] (by have := HB0.out; simp; omega) (owns_empty _ _ _ _ (Nat.le_of_eq HB0.out)) rfl rfl (Sl.nil _ _) (by simp) (by decide) (by omega) ?_; intro v1 w4 o1 n1; have O1 := Lib.hid o1; have N1 := Lib.hid ((((Mod.refl (fun i => B0 ≤ i) w3).alloc (.cells #[] TKn))).trans n1); clear o1 n1)
            go_meet
            refine ⟨?_, N1⟩
            show World.ownsRow _ _ _ _ _ _ _
            simpa [recL] using O1.out
        case rest =>
          obtain ⟨O1, N1⟩ := hcut
          obtain ⟨a1, cap1, rfl, _, _, _⟩ := O1.out.els
          have hB4 : B0 ≤ wc.heap.size := by have := N1.out.size; have := HB0.out; omega
          have HX4 := X3.out.mod N1.out (by show ¬ B0 ≤ B; omega)
          have x0 := HX4.cell 0; have x1 := HX4.cell 1; have x2 := HX4.cell 2; have x3 := HX4.cell 3
          clear HX4
          go_upto_region 22 with fail
          have hl4 : ∀ m : Nat, m ≤ 1000 → m * 32 ≤ 140737488355328 := by intro m hm; omega
          go_upto_region 23 with (at_builtin; refine appS (base := B0) rfl (.tmp 120) (.tmp 122) TKs TKn 4 rfl Try.underlying63 infoKr rfl (by decide) _ _ _ _ 1 [.int .i64 id, .int .i64 N.s, .int .i64 N.u, .int .i64 N.b] (by simp; omega) (owns_new O1.out ((Mod.refl (fun _ => False) wc).alloc _)) rfl rfl (sl_new wc _ _) (by simp [Value.oneCell']) (by decide) (by omega) ?_; intro v2 w5 o2 n2; have O2 := Lib.hid o2; have N2 := Lib.hid ((N1.out.alloc (.cells #[.int .i64 id, .int .i64 N.s, .int .i64 N.u, .int .i64 N.b] TKn)).trans n2); have hB5 : B0 ≤ w5.heap.size := (by have := N2.out.size; have := HB0.out; omega); have k3 := N2.out.cell c3 (by show ¬ B0 ≤ b; omega); clear o2 n2)
          have HX5 := Lib.hid (X3.out.mod N2.out (by show ¬ B0 ≤ B; omega))
          have HK5 := Lib.hid (hbk.out.mod N2.out (by show ¬ B0 ≤ b; omega))
          have HSL := Lib.hid (ho.out.sl.mod N2.out (by
            intro x n c hv hx
            have := ho.out.blk x n c hv
            have := HB0.out
            omega))
          clear x0 x1 x2 x3 O1 N1 c3 f3
          go_cut [13] from 112 to 134 (fun p wx => p = .pointer (some ⟨B, 0, none⟩) ∧ Hid (RB wx b base lim ban most k2) ∧ Hid (Mod (· = b) w wx))
          case first =>
            cases a with
            | some X =>
              go_wp2_with (at_builtin; refine appS (base := B0) rfl (.tmp 125) (.tmp 131) TKs TKn 4 rfl Try.underlying63 infoKr rfl (by decide) _ _ _ _ (k1.length - j) (recL (k1.drop j)) hB5 O2.out rfl rfl (by rw [TD.out]; first | exact HSL.out.tail (by omega) hcap | exact HSL.out.tailN (by omega) hcap) (recL_one _) (by decide) (by omega) ?_; intro v3 w6 o3 n3; obtain ⟨a3, cap3, rfl, _, _, _⟩ := o3.els; have O3 := Lib.hid o3; have N3 := Lib.hid (N2.out.trans n3); have k33 := N3.out.cell (hbk.out.cell 3) (by show ¬ B0 ≤ b; omega); have f33 := (HK5.out.mod n3 (by show ¬ B0 ≤ b; omega)).frozen 3; have HK6 := Lib.hid (HK5.out.mod n3 (by show ¬ B0 ≤ b; omega)); clear o3 n3 k3)
              all_goals (
                go_meet
                have hlenP : k2.length = j + 1 + (k1.length - j) := by rw [HP.out]; simp; omega
                refine ⟨rfl, ⟨H.out.lt, a3, cap3, ?_, ?_⟩, ?_⟩
                · rw [hlenP]
                  exact HK6.out.set 3 (.slice a3 (j + 1 + (k1.length - j)) cap3)
                · have hr : recL k2 = recL (k1.take j) ++ [.int .i64 id, .int .i64 N.s, .int .i64 N.u, .int .i64 N.b] ++ recL (k1.drop j) := by
                    rw [HP.out, recL_append, recL_cons, List.append_assoc]
                  rw [hlenP, hr]
                  exact owns_modG (S := (· = b)) (O3.out.mono HBB.out) ((Mod.refl _ w6).set1 3 _) (fun i hi e => by have := H.out.lt; omega)
                · exact (M3.out.trans (N3.out.mono (S' := (· = b)) (fun i hi (h : B0 ≤ i) => by have := HB0.out; omega))).set1 3 _)
            | none =>
              obtain ⟨h1, h2⟩ := HCAP.out rfl
              have hj0 : j = 0 := by rw [h1] at hj; simpa using hj
              subst hj0
              subst h2
              have HK0 := Lib.hid h1
              clear h1
              go_wp2_with (at_builtin; refine appS (base := B0) rfl (.tmp 125) (.tmp 131) TKs TKn 4 rfl Try.underlying63 infoKr rfl (by decide) _ _ _ _ 0 [] hB5 O2.out rfl rfl (Sl.nil _ _) (by simp) (by decide) (by omega) ?_; intro v3 w6 o3 n3; obtain ⟨a3, cap3, rfl, _, _, _⟩ := o3.els; have O3 := Lib.hid o3; have N3 := Lib.hid (N2.out.trans n3); have k33 := N3.out.cell (hbk.out.cell 3) (by show ¬ B0 ≤ b; omega); have f33 := (HK5.out.mod n3 (by show ¬ B0 ≤ b; omega)).frozen 3; have HK6 := Lib.hid (HK5.out.mod n3 (by show ¬ B0 ≤ b; omega)); clear o3 n3 k3)
              go_meet
              have hkk : k2 = [(id, N)] := by rw [HP.out, HK0.out]; rfl
              refine ⟨rfl, ⟨H.out.lt, a3, cap3, ?_, ?_⟩, ?_⟩
              · rw [hkk]
                exact HK6.out.set 3 (.slice a3 1 cap3)
              · rw [hkk]
                have := owns_modG (S := (· = b)) (O3.out.mono HBB.out) ((Mod.refl _ w6).set1 3 (.slice a3 1 cap3)) (fun i hi e => by have := H.out.lt; omega)
                simpa [recL] using this
              · exact (M3.out.trans (N3.out.mono (S' := (· = b)) (fun i hi (h : B0 ≤ i) => by have := HB0.out; omega))).set1 3 _
          case rest =>
            obtain ⟨rfl, T6, M6⟩ := hcut
            clear O2 N2 HX5 HK5 HSL hB5 k3 hjc hjc2 HCAP c2 he hbk ho
            generalize wc = w6 at *
            obtain ⟨a, cap, _, _, c2, c3, _, _, _, _, _⟩ := T6.out.at
            have hl2 : k2.length ≤ 1000 := HLN.out
            go_upto_region 24 with fail
            go_quiet (fail)
            go_upto_if 144 with fail
            go_cut [13] from 135 to 172 (fun p wx => p = .pointer (some ⟨B, 0, none⟩) ∧ Hid (RB wx b base lim ban most (cutX most k2)) ∧ Hid (Mod (· = b) w wx))
            case first =>
              by_cases hml : most < (k2.length : Int)
              · have HC : Hid (cutX most k2 = delL k2 (firstK k2)) := by show _ = _; unfold cutX; rw [if_pos hml]
                obtain ⟨q0, tl, hqt⟩ : ∃ q0 tl, k2 = q0 :: tl := List.exists_cons_of_ne_nil (by
                  intro e
                  have := HP.out
                  rw [e] at this
                  simpa using congrArg List.length this)
                have HQT := Lib.hid hqt
                have HKL := Lib.hid (show k2.length = tl.length + 1 by rw [hqt]; rfl)
                have HFK : Hid (firstK k2 = (lowF q0 tl).1) := by show _ = _; rw [hqt]; rfl
                obtain ⟨w7, hw7⟩ : ∃ w7, w7 = w6.drewN nq := ⟨_, rfl⟩
                have T7 := Lib.hid (show RB w7 b base lim ban most k2 by rw [hw7]; exact T6.out.drewN nq)
                have M7 := Lib.hid (show Mod (· = b) w w7 by rw [hw7]; exact M6.out.drewN nq)
                rw [← hw7]
                clear hqt hw7 T6 M6 c2 c3
                rw [show decide (most < (k2.length : Int)) = true by simpa using hml]
                clear hml
                go_wp2_with fail
                go_loopw [17, 18] (fun v u wr => ∃ (p k : Nat), v = .int .i64 p ∧ u = .int .i64 ((k : Int) + 1) ∧ k ≤ tl.length ∧ p ≤ k ∧ Hid (k2[p]? = some (lowF q0 (tl.take k))) ∧ Hid (Mod (fun _ => False) w7 wr)) (fun _ u _ => tl.length + 1 - (intOf u).toNat)
                case atStart => exact ⟨0, 0, rfl, rfl, Nat.zero_le _, Nat.le_refl _, by show _ = _; rw [HQT.out]; rfl, Mod.refl _ _⟩
                case round =>
                  obtain ⟨p, k, rfl, rfl, hk, hpk, hp, hm⟩ := hrel
                  have T9 := Lib.hid (T7.out.new hm.out)
                  obtain ⟨a, cap, _, _, _, c3, _, he9, _, _, _⟩ := T9.out.at
                  by_cases hlt : (k : Int) + 1 < k2.length
                  · obtain ⟨⟨x, r⟩, hkr⟩ : ∃ q, k2[k + 1]? = some q := ⟨_, List.getElem?_eq_getElem (by omega)⟩
                    obtain ⟨⟨y, r'⟩, hy⟩ : ∃ q, q = lowF q0 (tl.take k) := ⟨_, rfl⟩
                    have hpr : k2[p]? = some (y, r') := by rw [hy]; exact hp.out
                    have hu1 := HU.out _ (List.mem_of_getElem? hkr)
                    have hu2 := HU.out _ (List.mem_of_getElem? hpr)
                    obtain ⟨X, rfl, p0, p1, p2, p3⟩ := recEl he9.out (Nat.le_refl _) hkr
                    obtain ⟨X', hX, q1, q2, q3, q4⟩ := recEl he9.out (Nat.le_refl _) hpr
                    cases hX
                    have hplt : p < k2.length := by omega
                    have hpi : (p : Int) < k2.length := by omega
                    have hkt2 : k < tl.length := by have := HKL.out; omega
                    have htk : Hid (tl.take (k + 1) = tl.take k ++ [(x, r)]) := by
                      have : tl[k]? = some (x, r) := by
                        have := hkr
                        rw [HQT.out] at this
                        simpa using this
                      show _ = _
                      rw [List.take_add_one, this]
                      rfl
                    have hsn := lowF_snoc q0 (tl.take k) (x, r)
                    rw [← hy] at hsn
                    have HSN := Lib.hid hsn
                    have HSO := Lib.hid (fun n => refSooner x y r r' (wr.drewN n) hu1 hu2)
                    have HKR := Lib.hid hkr
                    have HPR := Lib.hid hpr
                    have HMR := Lib.hid hm.out
                    obtain ⟨LB, hLB⟩ : ∃ LB, LB = decide (lessF (x, r) (y, r')) := ⟨_, rfl⟩
                    rw [← hLB] at HSO
                    have HLB := Lib.hid hLB
                    have HY := Lib.hid hy
                    have hkk : (0 : Int) ≤ (k : Int) + 1 := by omega
                    have htn : ((k : Int) + 1).toNat = k + 1 := by omega
                    have hkl9 : k + 1 < k2.length := by omega
                    clear hkr hpr hu1 hu2 hsn hLB hy hp hm
                    go_wp2_with fail
                    refine wp_region2 [(14, 2)] [] (by kernel_rfl) (by kernel_rfl) ?_
                    repeat (first | (refine reg_anyT (by rfl) (fun K hK => ?_); go_simp; refine hK _ _ ?_; clear hK K) | (refine reg_read (by rfl) (fun K hK => ?_); go_simp; refine hK _ _ ?_; clear hK K))
                    refine reg_eff (by rfl) (fun rn K hK => ?_); go_simp
                    refine (HSO.out _).mono ?_; rintro e w' ⟨rfl, m9⟩
                    refine hK _ _ ?_; clear hK K
                    repeat (first | (refine reg_anyT (by rfl) (fun K hK => ?_); go_simp; refine hK _ _ ?_; clear hK K) | (refine reg_read (by rfl) (fun K hK => ?_); go_simp; refine hK _ _ ?_; clear hK K))
                    refine reg_nil (fun nd => ?_)
                    have M10 := Lib.hid (HMR.out.trans (m9.undrew.drewN nd))
                    clear m9
                    obtain hLBv | hLBv : LB = true ∨ LB = false := by cases LB <;> simp
                    · have HV : Hid (k2[k + 1]? = some (lowF q0 (tl.take (k + 1)))) := by
                        show _ = _
                        have := HLB.out
                        rw [hLBv] at this
                        rw [HKR.out, htk.out, HSN.out, if_pos (of_decide_eq_true this.symm)]
                      rw [hLBv]
                      clear hLBv
                      generalize World.drewN w' nd = w10 at *
                      go_wp2_with fail
                      go_roundw
                      case rel =>
                        exact ⟨k + 1, k + 1, by go_num, by go_num, by omega, Nat.le_refl _, HV, M10⟩
                      case measure => simp [intOf]; omega
                    · have HV : Hid (k2[p]? = some (lowF q0 (tl.take (k + 1)))) := by
                        show _ = _
                        have := HLB.out
                        rw [hLBv] at this
                        rw [HPR.out, htk.out, HSN.out, if_neg (of_decide_eq_false this.symm)]
                      rw [hLBv]
                      clear hLBv
                      generalize World.drewN w' nd = w10 at *
                      go_wp2_with fail
                      go_roundw
                      case rel =>
                        exact ⟨p, k + 1, rfl, by go_num, by omega, by omega, HV, M10⟩
                      case measure => simp [intOf]; omega
                  · have hkt : k = tl.length := by have := HKL.out; omega
                    have hp2 := hp.out
                    rw [hkt, List.take_length] at hp2
                    have HD : Hid (delL k2 (firstK k2) = k2.take p ++ k2.drop (p + 1)) := by
                      show _ = _
                      rw [HFK.out]
                      exact del_at HRK.out hp2
                    have hlt' : decide ((k : Int) + 1 < k2.length) = false := by simpa using hlt
                    have HRC := Lib.hid (refCut p b base lim ban most k2 wr T9.out hl2 (List.getElem?_eq_some_iff.1 hp2).1)
                    have HMR := Lib.hid (M7.out.trans (hm.out.mono (fun _ _ h => h.elim)))
                    have hbw : base ≤ wr.heap.size := by have := HBA.out; have := HMR.out.size; omega
                    have HBW := Lib.hid hbw
                    clear hkt hp2 hp hm hbw
                    go_wp2_with fail
                    refine HRC.out.mono ?_; rintro e w10 ⟨rfl, t10, m10⟩
                    go_wp2_with fail
                    go_meet
                    refine ⟨rfl, ?_, HMR.out.trans m10⟩
                    show RB _ _ _ _ _ _ _
                    rw [HC.out, HD.out]
                    exact t10.base H.out.lt HBW.out
              · have HC : Hid (cutX most k2 = k2) := by show _ = _; unfold cutX; rw [if_neg hml]
                have hml' : decide (most < (k2.length : Int)) = false := by simpa using hml
                go_wp2_with fail
                go_meet
                refine ⟨rfl, ?_, M6.out.drewN _⟩
                show RB _ _ _ _ _ _ _
                rw [HC.out]
                exact T6.out.drewN _
            case rest =>
              obtain ⟨rfl, T8, M8⟩ := hcut
              clear c2 c3 T6 M6
              generalize wc = w8 at *
              have hRX : Rising (cutX most k2) := by
                unfold cutX
                split
                · exact rising_del HRK.out _
                · exact HRK.out
              have hLX : (cutX most k2).length ≤ 1000 := by
                unfold cutX
                split
                · exact Nat.le_trans (List.length_filter_le _ _) HLN.out
                · exact HLN.out
              obtain ⟨kx, hkx⟩ : ∃ kx, kx = cutX most k2 := ⟨_, rfl⟩
              rw [← hkx] at T8 hRX hLX
              have HKX := Lib.hid hkx
              have HRX := Lib.hid hRX
              obtain ⟨a, cap, _, _, _, c3, _, he, _, _, _⟩ := T8.out.at
              clear hkx hRX
              go_wp2_with fail
              refine (refFind id b base lim ban most kx w8 T8.out hLX).mono ?_; rintro e w' ⟨⟨v2, rfl, hv2⟩, rfl⟩
              rcases hv2 with ⟨rfl, hn⟩ | ⟨i, r, rfl, hi⟩
              · have HRD := Lib.hid (rd_none hn)
                clear hn
                go_wp2_with fail
                go_ret2
                refine ⟨by rw [← HKX.out, HRD.out]; rfl, by rw [← HKX.out]; exact T8.out, M8.out⟩
              · have HRD := Lib.hid (rd_at HRX.out hi)
                obtain ⟨X, rfl, p0, p1, p2, p3⟩ := recEl he.out (Nat.le_refl _) hi
                have hil : (i : Int) < kx.length := by have := (List.getElem?_eq_some_iff.1 hi).1; omega
                clear hi
                go_wp2_with fail
                go_ret2
                refine ⟨by rw [← HKX.out, HRD.out]; rfl, by rw [← HKX.out]; exact T8.out, M8.out⟩
end Go.Proofs.Ytiabjaaamgjlnaa
