/- The reference of rarest: Pick; and Pick of both where nothing is picked; no condition but the table. -/
import Derived.Test.YtegmgflplhpacaaDoorRbE
namespace Go.Proofs.YtegmgflplhpacaaDoor
open Go Go.RowKit

set_option maxRecDepth 100000 in
set_option maxHeartbeats 4000000 in
theorem rarePickNo (peer seed : Int) (so : Option Nat) (b M g n : Nat) (most : Int) (c : Nat → Int) (ks : List (Int × Ow)) (w : World) (h : BD w b M g n most c ks) (hI : I64 peer) (hbad : lkL ks peer = none ∨ so = none ∨ ∃ s sg n' f, so = some s ∧ BSet w s sg n' f ∧ n' ≠ n) :
    Calls Tryd.prog 12 #[.pointer (some ⟨b, 0, none⟩), .int .i64 peer, .pointer (so.map fun s => ⟨s, 0, none⟩), .int .u64 seed] w fun e w' => e = .returned (.int .i64 (-1)) ∧ Mod (fun _ => False) w w' := by
  have c2 := h.head.cell 2; have c0 := h.head.cell 0
  have hlk := h.map.lookOk Tryd.underlying3 Tryd.underlying60 (zeroPtr w) hI
  rw [lk_mpO] at hlk
  have hz := zeroPtr
  cases hl : lkL ks peer with
  | none =>
    rw [hl] at hlk
    simp only [Option.map_none, Option.getD_none, Option.isSome_none] at hlk
    obtain ⟨pv, hpv⟩ : ∃ p, p = so.map fun s => (⟨s, 0, none⟩ : Addr) := ⟨_, rfl⟩
    rw [← hpv]
    clear h hI hl hbad hpv
    go_enter Tryd.func12, Tryd.ntmps12
    go_upto_region 2 with fail
    go_quiet (fail)
    go_wp2_with fail
    go_ret
    exact ⟨rfl, (Mod.refl _ w).drewN _⟩
  | some o =>
    rw [hl] at hlk
    simp only [Option.map_some, Option.getD_some, Option.isSome_some] at hlk
    rcases hbad with hbad | rfl | ⟨s, sg, n', f, rfl, hs, hne⟩
    · rw [hl] at hbad; cases hbad
    · show Calls Tryd.prog 12 #[.pointer (some ⟨b, 0, none⟩), .int .i64 peer, .pointer none, .int .u64 seed] w _
      clear h hI hl
      go_enter Tryd.func12, Tryd.ntmps12
      go_upto_region 2 with fail
      go_quiet (fail)
      go_wp2_with fail
      go_ret
      exact ⟨rfl, (Mod.refl _ w).drewN _⟩
    · show Calls Tryd.prog 12 #[.pointer (some ⟨b, 0, none⟩), .int .i64 peer, .pointer (some ⟨s, 0, none⟩), .int .u64 seed] w _
      have HS := Lib.hid hs
      have hnn : ((n' : Int) != (n : Int)) = true := by simp; omega
      clear h hI hl hs hne
      go_enter Tryd.func12, Tryd.ntmps12
      go_upto_region 2 with fail
      clear hlk
      refine wp_region2 [] [26] (by kernel_rfl) (by kernel_rfl) ?_
      repeat (first | (refine reg_anyT (by rfl) (fun K hK => ?_); go_simp; refine hK _ _ ?_; clear hK K) | (refine reg_read (by rfl) (fun K hK => ?_); go_simp; refine hK _ _ ?_; clear hK K))
      refine reg_read (by rfl) (fun K hK => ?_); go_simp
      refine ⟨_, fun rn => rd_same (bitsLen s sg n' f _ (HS.out.drewN rn)), hK _ _ ?_⟩; clear hK K
      repeat (first | (refine reg_anyT (by rfl) (fun K hK => ?_); go_simp; refine hK _ _ ?_; clear hK K) | (refine reg_read (by rfl) (fun K hK => ?_); go_simp; refine hK _ _ ?_; clear hK K))
      refine reg_nil (fun nd => ?_)
      go_wp2_with fail
      go_ret
      exact ⟨rfl, (Mod.refl _ w).drewN _⟩

set_option maxRecDepth 100000 in
set_option maxHeartbeats 4000000 in
theorem refRPickNo (peer seed : Int) (so : Option Nat) (b base n : Nat) (most : Int) (ks : List (Int × Rp)) (w : World) (h : RD w b base n most ks) (hr : Rising ks) (hlen : ks.length ≤ 1000) (hbad : lkL ks peer = none ∨ so = none ∨ ∃ s sg n' f, so = some s ∧ RSet w s sg n' f ∧ n' ≠ n) :
    Calls Tryd.prog 43 #[.pointer (some ⟨b, 0, none⟩), .int .i64 peer, .pointer (so.map fun s => ⟨s, 0, none⟩), .int .u64 seed] w fun e w' => e = .returned (.int .i64 (-1)) ∧ Mod (fun _ => False) w w' := by
  obtain ⟨a, cap, c0, _, c2, _, _, _, _, _⟩ := h.at
  cases hl : lkL ks peer with
  | none =>
    have HF := Lib.hid (refRFindNo peer b base n most ks w h hr hlen hl)
    obtain ⟨pv, hpv⟩ : ∃ p, p = so.map fun s => (⟨s, 0, none⟩ : Addr) := ⟨_, rfl⟩
    rw [← hpv]
    clear h hl hbad hpv hr
    go_enter Tryd.func43, Tryd.ntmps43
    go_wp2_with fail
    refine HF.out.mono ?_; rintro e w' ⟨rfl, rfl⟩
    go_upto_region 2 with fail
    go_quiet (fail)
    go_wp2_with fail
    go_ret
    exact ⟨rfl, (Mod.refl _ w).drewN _⟩
  | some o =>
    obtain ⟨i, hi⟩ := List.getElem?_of_mem (lk_some_mem hl)
    have HF := Lib.hid (refRFindAt peer i o b base n most ks w h hr hlen hi)
    have hi1 : decide ((i : Int) < 0) = false := by simp
    rcases hbad with hbad | rfl | ⟨s, sg, n', f, rfl, hs, hne⟩
    · rw [hl] at hbad; cases hbad
    · show Calls Tryd.prog 43 #[.pointer (some ⟨b, 0, none⟩), .int .i64 peer, .pointer none, .int .u64 seed] w _
      clear h hl hi hr
      go_enter Tryd.func43, Tryd.ntmps43
      go_wp2_with fail
      refine HF.out.mono ?_; rintro e w' ⟨rfl, rfl⟩
      go_upto_region 2 with fail
      go_quiet (fail)
      go_wp2_with fail
      go_ret
      exact ⟨rfl, (Mod.refl _ w).drewN _⟩
    · show Calls Tryd.prog 43 #[.pointer (some ⟨b, 0, none⟩), .int .i64 peer, .pointer (some ⟨s, 0, none⟩), .int .u64 seed] w _
      obtain ⟨cs, d0, _⟩ := rset_sl hs
      have hnn : ((n' : Int) != (n : Int)) = true := by simp; omega
      clear h hl hs hne hi hr
      go_enter Tryd.func43, Tryd.ntmps43
      go_wp2_with fail
      refine HF.out.mono ?_; rintro e w' ⟨rfl, rfl⟩
      go_upto_region 2 with fail
      go_quiet (fail)
      go_wp2_with fail
      go_ret
      exact ⟨rfl, (Mod.refl _ w).drewN _⟩

/-- The least so far. -/
def leastV (c : Nat → Int) : List Nat → Int
  | [] => 65
  | h :: _ => c h
set_option maxRecDepth 100000 in
set_option maxHeartbeats 4000000 in
theorem refRPick (peer seed : Int) (o : Rp) (s' sg' b base n : Nat) (most : Int) (ks : List (Int × Rp)) (f' : Nat → Bool) (w : World) (h : RD w b base n most ks) (hs : RSet w s' sg' n f') (hr : Rising ks) (hlen : ks.length ≤ 64) (hl : lkL ks peer = some o) (hn : n ≤ 1024) :
    Calls Tryd.prog 43 #[.pointer (some ⟨b, 0, none⟩), .int .i64 peer, .pointer (some ⟨s', 0, none⟩), .int .u64 seed] w fun e w' => e = .returned (.int .i64 (pickR (cF (absR ks)) (fLess o.f f') n seed)) ∧ Mod (fun _ => False) w w' := by
  obtain ⟨i0, hi⟩ := List.getElem?_of_mem (lk_some_mem hl)
  have HF := Lib.hid (refRFindAt peer i0 o b base n most ks w h hr (by omega) hi)
  have hi1 : decide ((i0 : Int) < 0) = false := by simp
  have hi0l2 : i0 < ks.length := (List.getElem?_eq_some_iff.1 hi).1
  have hi0l : (i0 : Int) < ks.length := by omega
  obtain ⟨cs, d0, _⟩ := rset_sl hs
  obtain ⟨a, cap, c0, _, c2, _, _, _, _, _⟩ := h.at
  have hnn : ((n : Int) != (n : Int)) = false := by simp
  obtain ⟨c, hc⟩ : ∃ c, c = cF (absR ks) := ⟨_, rfl⟩
  obtain ⟨F, hF⟩ : ∃ F, F = fLess o.f f' := ⟨_, rfl⟩
  rw [← hc, ← hF]
  have HCE := Lib.hid hc
  have HFE := Lib.hid hF
  obtain ⟨R, hR⟩ : ∃ R, R = pickR c F n seed := ⟨_, rfl⟩
  rw [← hR]
  have HR := Lib.hid hR
  have H := Lib.hid h
  have HS := Lib.hid hs
  have HI := Lib.hid hi
  have HN := Lib.hid hn
  have HCB : Hid (∀ j, 0 ≤ c j ∧ c j ≤ 64) := by intro j; rw [hc]; have := cF_bd (absR ks) j; unfold absR at this ⊢; rw [mapV_len] at this; omega
  clear h hs hr hl hn hi hc hF hR
  go_enter Tryd.func43, Tryd.ntmps43
  go_wp2_with fail
  refine HF.out.mono ?_; rintro e w' ⟨rfl, rfl⟩
  go_upto_region 2 with fail
  go_quiet (fail)
  have md := (Mod.refl (fun _ => False) w).drewN nq
  have H2 := Lib.hid (H.out.new md)
  have S2 := Lib.hid (HS.out.mod md (fun h => h) (fun h => h))
  have M2 := Lib.hid md
  clear md c0 c2 d0 HF H HS
  generalize w.drewN nq = w2 at *
  go_wp2_with fail
  go_loopw [10, 11, 12] (fun lv u v wr => ∃ k : Nat, v = .int .i64 k ∧ k ≤ n ∧ lv = .int .i64 (leastV c (pickL c F k)) ∧ Hid (wr.ownsRow w2.heap.size 3 1 u (pickL c F k).length (natL (pickL c F k))) ∧ Hid (Mod (fun _ => False) w2 wr)) (fun _ _ v _ => n - (intOf v).toNat)
  case atStart => exact ⟨0, rfl, Nat.zero_le _, rfl, World.ownsRow_nil _ _ _ _, Mod.refl _ _⟩
  case round =>
    obtain ⟨i, rfl, hi, rfl, hown, hm⟩ := hrel
    have HX := Lib.hid (H2.out.new hm.out)
    obtain ⟨a, cap, c0, _, c2, he, _, _, _, _⟩ := HX.out.at
    by_cases hlt : (i : Int) < n
    · have hin : i < n := by omega
      obtain ⟨X, rfl, _, p1⟩ := hvEl he.out (Nat.le_refl _) HI.out
      dsimp only at p1
      have b0 := (boo_at (HX.out.sets _ (List.mem_of_getElem? HI.out)) hin).1
      dsimp only at b0
      have SX := Lib.hid (S2.out.mod hm.out (fun h => h) (fun h => h))
      obtain ⟨cs2, d0, _⟩ := rset_sl SX.out
      have d1 := (SX.out.at hin).1
      have hFi : F i = (o.f i && !f' i) := by rw [HFE.out]; rfl
      have HOWN := hown
      have hk1 : n - (i + 1) < n - i := by omega
      have hn1024 := HN.out
      have hpl := pickL_lt c F i
      have hlen' := pickL_len c F i
      cases hfi : F i with
      | false =>
        have HPK := Lib.hid (show pickL c F (i + 1) = pickL c F i by show (if F i = true then _ else _) = _; rw [hfi]; rfl)
        rw [hFi] at hfi
        have hlv : leastV c (pickL c F (i + 1)) = leastV c (pickL c F i) := by rw [HPK.out]
        have HLV := Lib.hid hlv
        clear hpl hlen' hFi hlv
        obtain ⟨u1, hu1⟩ : ∃ u, u = o.f i := ⟨_, rfl⟩
        obtain ⟨u2, hu2⟩ : ∃ u, u = f' i := ⟨_, rfl⟩
        rw [← hu1] at hfi b0
        rw [← hu2] at hfi d1
        clear hu1 hu2
        cases u1 with
        | false =>
          clear hfi
          go_wp2_with fail
          exact ⟨⟨i + 1, by go_num, by omega, by rw [HLV.out], by rw [HPK.out]; exact HOWN, hm⟩, by simp [intOf]; omega⟩
        | true =>
          have hu : u2 = true := by simpa using hfi
          subst hu
          clear hfi
          go_wp2_with fail
          exact ⟨⟨i + 1, by go_num, by omega, by rw [HLV.out], by rw [HPK.out]; exact HOWN, hm⟩, by simp [intOf]; omega⟩
      | true =>
        have hp1 : pickL c F (i + 1) = pickS c (pickL c F i) i := by show (if F i = true then _ else _) = _; rw [hfi]; rfl
        rw [hFi] at hfi
        have h1 : o.f i = true := by revert hfi; cases o.f i <;> simp
        have h2 : f' i = false := by revert hfi; rw [h1]; cases f' i <;> simp
        rw [h1] at b0
        rw [h2] at d1
        have HHW := Lib.hid (show Calls Tryd.prog 24 #[.pointer (some ⟨b, 0, none⟩), .int .i64 (i : Int)] wr (fun e w' => e = .returned (.int .i64 (cntR (cF (absR ks)) n (i : Int))) ∧ Mod (fun _ => False) wr w') from (refRHow (i : Int) b base n most ks wr HX.out (by omega)).mono (fun e w' ⟨h1, h2⟩ => ⟨h1, h2 ▸ Mod.refl _ _⟩))
        rw [← HCE.out, show cntR c n (i : Int) = c i by unfold cntR; rw [if_pos (by omega)]; rfl] at HHW
        have hcb := HCB.out i
        obtain ⟨ci, hci⟩ : ∃ x, x = c i := ⟨_, rfl⟩
        rw [← hci] at HHW hcb
        clear hfi hFi h1 h2 he
        cases hpi : pickL c F i with
        | nil =>
          rw [hpi] at hp1 HOWN
          have HPK := Lib.hid (show pickL c F (i + 1) = [i] from hp1)
          have HLV : Hid (leastV c (pickL c F (i + 1)) = ci) := by show _ = _; rw [HPK.out, hci]; rfl
          rw [show leastV c [] = 65 from rfl]
          clear hp1 hpl hlen' hpi hci hown HOWN
          go_wp2_with fail
          refine HHW.out.mono ?_; rintro e wb ⟨rfl, mb⟩
          have MB := Lib.hid (hm.out.trans mb)
          have OWB : Hid (wb.ownsRow w2.heap.size 3 1 (.slice none 0 0) 0 (natL [])) := World.ownsRow_nil _ _ _ _
          have hlt65 : ci < 65 := by omega
          clear mb HHW
          go_wp2_with (at_builtin; refine app1 (base := w2.heap.size) rfl (.tmp 75) (.tmp 77) 53 3 1 rfl Tryd.underlying53 infoInt rfl (by decide) _ _ _ _ 1 [.int .i64 (i : Int)] (by have := MB.out.size; simp; omega) (OWB.out.alloc _) rfl rfl (sl_new wb #[.int .i64 (i : Int)] 3) (by simp [Value.oneCell']) (by decide) (by omega) ?_; intro v' w' g1 g2 g3; have G1 := Lib.hid g1; have G2 := Lib.hid (((Mod.refl _ wb).alloc (.cells #[.int .i64 (i : Int)] 3)).trans g2); clear g1 g2 g3)
          have MX := Lib.hid (MB.out.new G2.out (own_ge OWB.out))
          exact ⟨⟨i + 1, by go_num, by omega, by rw [HLV.out], by rw [HPK.out]; exact G1.out, MX⟩, by simp [intOf]; omega⟩
        | cons hd t =>
          rw [hpi] at hp1 HOWN
          obtain ⟨ch, hch⟩ : ∃ x, x = c hd := ⟨_, rfl⟩
          rw [show leastV c (hd :: t) = ch from hch.symm]
          have hps : pickL c F (i + 1) = if ci < ch then [i] else if ci = ch then (hd :: t) ++ [i] else hd :: t := by rw [hp1, hci, hch]; rfl
          obtain ⟨m, hme⟩ : ∃ m, m = (hd :: t).length := ⟨_, rfl⟩
          rw [← hme] at HOWN
          have hml : m ≤ 1024 := by rw [hpi, ← hme] at hlen'; omega
          have HME := Lib.hid hme
          have HCI := Lib.hid hci
          have HCH := Lib.hid hch
          clear hp1 hpl hlen' hpi hci hch hown hme
          rcases Int.lt_trichotomy ci ch with gg | gg | gg
          · have HPK := Lib.hid (show pickL c F (i + 1) = [i] by rw [hps, if_pos gg])
            have HLV : Hid (leastV c (pickL c F (i + 1)) = ci) := by show _ = _; rw [HPK.out, HCI.out]; rfl
            clear hps HOWN
            go_wp2_with fail
            refine HHW.out.mono ?_; rintro e wb ⟨rfl, mb⟩
            have MB := Lib.hid (hm.out.trans mb)
            have OWB : Hid (wb.ownsRow w2.heap.size 3 1 (.slice none 0 0) 0 (natL [])) := World.ownsRow_nil _ _ _ _
            clear mb HHW
            go_wp2_with (at_builtin; refine app1 (base := w2.heap.size) rfl (.tmp 75) (.tmp 77) 53 3 1 rfl Tryd.underlying53 infoInt rfl (by decide) _ _ _ _ 1 [.int .i64 (i : Int)] (by have := MB.out.size; simp; omega) (OWB.out.alloc _) rfl rfl (sl_new wb #[.int .i64 (i : Int)] 3) (by simp [Value.oneCell']) (by decide) (by omega) ?_; intro v' w' g1 g2 g3; have G1 := Lib.hid g1; have G2 := Lib.hid (((Mod.refl _ wb).alloc (.cells #[.int .i64 (i : Int)] 3)).trans g2); clear g1 g2 g3)
            have MX := Lib.hid (MB.out.new G2.out (own_ge OWB.out))
            exact ⟨⟨i + 1, by go_num, by omega, by rw [HLV.out], by rw [HPK.out]; exact G1.out, MX⟩, by simp [intOf]; omega⟩
          · have HPK := Lib.hid (show pickL c F (i + 1) = (hd :: t) ++ [i] by rw [hps, if_neg (by omega), if_pos gg])
            have HLV : Hid (leastV c (pickL c F (i + 1)) = ch) := by show _ = _; rw [HPK.out, HCH.out]; rfl
            have g1 : decide (ci < ch) = false := by simp; omega
            have g2 : (ci == ch) = true := by simpa using gg
            clear hps gg
            go_wp2_with fail
            refine HHW.out.mono ?_; rintro e wb ⟨rfl, mb⟩
            have MB := Lib.hid (hm.out.trans mb)
            have OWB := Lib.hid (owns_new HOWN.out mb)
            clear mb HHW
            go_wp2_with (at_builtin; refine app1 (base := w2.heap.size) rfl (.tmp 75) (.tmp 77) 53 3 1 rfl Tryd.underlying53 infoInt rfl (by decide) _ _ _ _ 1 [.int .i64 (i : Int)] (by have := MB.out.size; simp; omega) (OWB.out.alloc _) rfl rfl (sl_new wb #[.int .i64 (i : Int)] 3) (by simp [Value.oneCell']) (by decide) (by omega) ?_; intro v' w' g1 g2 g3; have G1 := Lib.hid g1; have G2 := Lib.hid (((Mod.refl _ wb).alloc (.cells #[.int .i64 (i : Int)] 3)).trans g2); clear g1 g2 g3)
            have MX := Lib.hid (MB.out.new G2.out (own_ge OWB.out))
            refine ⟨⟨i + 1, by go_num, by omega, by rw [HLV.out], ?_, MX⟩, by simp [intOf]; omega⟩
            show World.ownsRow _ _ _ _ _ _ _
            rw [HPK.out, show natL ((hd :: t) ++ [i]) = natL (hd :: t) ++ [.int .i64 (i : Int)] by simp [natL], List.length_append, ← HME.out]
            exact G1.out
          · have HPK := Lib.hid (show pickL c F (i + 1) = hd :: t by rw [hps, if_neg (by omega), if_neg (by omega)])
            have HLV : Hid (leastV c (pickL c F (i + 1)) = ch) := by show _ = _; rw [HPK.out, HCH.out]; rfl
            have g1 : decide (ci < ch) = false := by simp; omega
            have g2 : (ci == ch) = false := by simp; omega
            clear hps gg
            go_wp2_with fail
            refine HHW.out.mono ?_; rintro e wb ⟨rfl, mb⟩
            have MB := Lib.hid (hm.out.trans mb)
            have OWB := Lib.hid (owns_new HOWN.out mb)
            clear mb HHW
            go_wp2_with fail
            refine ⟨⟨i + 1, by go_num, by omega, by rw [HLV.out], ?_, MB⟩, by simp [intOf]; omega⟩
            show World.ownsRow _ _ _ _ _ _ _
            rw [HPK.out, ← HME.out]
            exact OWB.out
    · have hkn : i = n := by omega
      have h1 := hown.out
      rw [hkn] at h1
      have M3 := Lib.hid (M2.out.trans hm.out)
      obtain ⟨zs, hzs⟩ : ∃ zs, zs = pickL c F n := ⟨_, rfl⟩
      have hrr := HR.out
      unfold pickR at hrr
      rw [← hzs] at hrr h1
      obtain ⟨m, hm'⟩ : ∃ m, m = zs.length := ⟨_, rfl⟩
      have hml : m ≤ 1024 := by have := pickL_len c F n; have := HN.out; rw [hm', hzs]; omega
      rw [← hm'] at hrr h1
      obtain ⟨a7, cap7, rfl, hcap, he7, hxb⟩ := h1.els
      have HE := Lib.hid he7
      have HML := Lib.hid hm'
      obtain ⟨lv, hlv⟩ : ∃ x, x = leastV c (pickL c F i) := ⟨_, rfl⟩
      rw [← hlv]
      clear hown h1 he7 hzs hm' hlv hkn hi c2 he
      obtain ⟨w1', hw1'⟩ : ∃ w1', w1' = wr := ⟨_, rfl⟩
      rw [← hw1'] at hxb M3 HE c0 ⊢
      clear hw1'
      by_cases h0 : m = 0
      · subst h0
        rw [if_pos rfl] at hrr
        subst hrr
        go_wp2_with fail
        go_ret
        exact ⟨rfl, M3.out⟩
      · rw [if_neg h0] at hrr
        obtain ⟨j, hj, hjn⟩ := blw_at seed (n := m) (by omega)
        obtain ⟨x, hx⟩ : ∃ x, zs[j]? = some x := ⟨_, List.getElem?_eq_getElem (by have := HML.out; omega)⟩
        rw [hj, Int.toNat_natCast, List.getD_eq_getElem?_getD, hx] at hrr
        subst hrr
        have hn0 : ((m : Int) == 0) = false := by simpa using h0
        have hwn : IntKind.u64.wrap (m : Int) = (m : Int) := by unfold IntKind.wrap; simp [IntKind.bits, IntKind.signed]; omega
        have hU : U64 (m : Int) := ⟨by omega, by omega⟩
        obtain ⟨X, rfl, e0, _⟩ := HE.out j hjn
        have d0 := e0 (.int .i64 x) (by simp [hx])
        rw [Nat.mul_one] at d0
        have hkn2 : (j : Int) < m := by omega
        have ma := (Mod.refl (fun _ => False) w1').alloc (.cells #[.int .u64 seed] 102)
        have d1 := ma.cell d0 (fun h => h)
        have XA := Blk.new w1' #[.int .u64 seed] 102
        have HB := Lib.hid (refBelow seed (m : Int) w1'.heap.size _ (XA.cell 0) (XA.frozen 0) hU)
        rw [hj] at HB
        have MA := Lib.hid (M3.out.trans ma)
        have hxl := (hxb X rfl).2
        have m2 := (Mod.refl (· = w1'.heap.size) (w1'.alloc (.cells #[.int .u64 seed] 102))).setCell (p := ⟨w1'.heap.size, 0, none⟩) (.inl rfl) (.int .u64 (stp seed))
        have d2 := m2.cell d1 (by show ¬ (X.add j).block = w1'.heap.size; rw [Addr.add_block]; omega)
        have M4 := Lib.hid (MA.out.setCell (p := ⟨w1'.heap.size, 0, none⟩) (.inr (by have := M3.out.size; exact this)) (.int .u64 (stp seed)))
        clear e0 hx hj h0 HE XA ma d0 d1 m2 hxl hxb M3 hU
        go_wp2_with fail
        refine HB.out.mono ?_; rintro e w5 ⟨rfl, hw5⟩
        rw [hw5] at d2 M4
        clear hw5 HB MA
        go_wp2_with fail
        go_ret
        exact ⟨rfl, M4.out⟩
end Go.Proofs.YtegmgflplhpacaaDoor
