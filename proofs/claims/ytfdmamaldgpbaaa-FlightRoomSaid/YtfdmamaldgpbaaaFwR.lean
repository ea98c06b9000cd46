/- The walk of the statement FlightRoom: the call returns true and turns nothing that was there; no condition. -/
import Derived.Test.YtfdmamaldgpbaaaFwS
import Derived.Deep.CutRange
namespace Go.Proofs.Ytfdmamaldgpbaaa
open Go Go.RowKit

theorem askE_zero {most each : Int} {ks : List (Int × Rq)} {p k t : Int} : askE most each ks p k t = 0 ↔ (0 ≤ p ∧ p ≤ 65536 ∧ 0 ≤ k ∧ k ≤ 1023 ∧ 0 ≤ t ∧ t ≤ 1099511627776) ∧ (lkL ks k).isSome = false ∧ ((ks.length : Int) < most ∧ (many ks p : Int) < each) := by
  unfold askE
  by_cases h1 : 0 ≤ p ∧ p ≤ 65536 ∧ 0 ≤ k ∧ k ≤ 1023 ∧ 0 ≤ t ∧ t ≤ 1099511627776
  · rw [if_neg (not_not_intro h1)]
    cases h2 : (lkL ks k).isSome with
    | true => simp
    | false =>
      by_cases h3 : most ≤ (ks.length : Int) ∨ each ≤ (many ks p : Int)
      · simp only [Bool.false_eq_true, if_false, if_pos h3]
        constructor
        · intro h; cases h
        · rintro ⟨_, _, h4, h5⟩; omega
      · simp only [Bool.false_eq_true, if_false, if_neg h3]
        exact ⟨fun _ => ⟨h1, trivial, by omega, by omega⟩, fun _ => trivial⟩
  · rw [if_pos h1]
    exact ⟨fun h => (by cases h), fun h => absurd h.1 h1⟩

set_option maxRecDepth 100000 in
set_option maxHeartbeats 8000000 in
theorem flightRoom_walk (z0 : X3) (a1 : Option Addr) (len1 cap1 : Nat) (l : List St) (w : World) (_ : True) (hl : IsSteps w a1 len1 l) :
    Calls Try.prog 6 #[x3V z0, .slice a1 len1 cap1] w fun e w' => e = .returned (.bool true) ∧ Below w.heap.size w w' := by
  refine Calls.mono (R := fun e w' => e = .returned (.bool true) ∧ Mod (fun _ => False) w w') ?_ (fun e w' ⟨h1, h2⟩ => ⟨h1, h2.bel⟩)
  obtain ⟨x, y, z⟩ := z0
  unfold x3V
  dsimp only
  have HL0 := Lib.hid hl
  have hll : (len1 : Int) ≤ 9223372036854775807 := hl.2.1
  clear hl
  have mx := (Mod.refl (fun _ => False) w).alloc (.cells #[.int .i64 x, .int .i64 y, .int .i64 z] 22)
  have X0 := Lib.hid (Blk.new w #[.int .i64 x, .int .i64 y, .int .i64 z] 22)
  have MX := Lib.hid mx
  obtain ⟨w0, hw0⟩ : ∃ w0, w0 = w.alloc (.cells #[.int .i64 x, .int .i64 y, .int .i64 z] 22) := ⟨_, rfl⟩
  obtain ⟨BX, hBX⟩ : ∃ BX, BX = w.heap.size := ⟨_, rfl⟩
  rw [← hw0, ← hBX] at X0
  rw [← hw0] at MX
  have HW0 := Lib.hid hw0
  have HBX := Lib.hid hBX
  have HL := Lib.hid (HL0.out.new MX.out)
  have HXL := Lib.hid X0.out.lt
  clear mx hw0 hBX
  by_cases hok : NewOk x y z
  · have HOK := Lib.hid hok
    clear hok
    go_enter Try.func6, Try.ntmps6
    go_wp2_with fail
    rw [← HW0.out, ← HBX.out]
    refine (awake16 w0).mono ?_; rintro e w1 ⟨rfl, m1⟩
    have X1 := Lib.hid (X0.out.mod m1 (fun h => h))
    have M1 := Lib.hid m1
    have c0 := X1.out.cell 0; have c1 := X1.out.cell 1; have c2 := X1.out.cell 2
    clear m1
    go_wp2_with fail
    refine (flNew x y z _ HOK.out).mono ?_; rintro e w2 ⟨rfl, t2, m2, s2⟩
    have T2 := Lib.hid t2
    have M2 := Lib.hid m2
    clear t2 m2 c0 c1 c2
    go_wp2_with fail
    refine (refNew 1 1 1 _ (by unfold NewOk; omega)).mono ?_; rintro e w3 ⟨rfl, r3, m3, s3⟩
    obtain ⟨b, hb⟩ : ∃ b, b = w1.heap.size + 1 := ⟨_, rfl⟩
    obtain ⟨M, hM⟩ : ∃ b, b = w1.heap.size := ⟨_, rfl⟩
    obtain ⟨b', hb'⟩ : ∃ b, b = w2.heap.size := ⟨_, rfl⟩
    have hz : w0.heap.size ≤ w1.heap.size := M1.out.size
    have h0 := HOK.out
    unfold NewOk at h0
    have two : Both w3 b M x y z [] b' (b' + 1) 1 1 1 [] := by
      refine ⟨⟨?_, ?_, by omega, by omega, by omega, by omega, by omega⟩, Okk.nil _ _ (by omega) (by omega), Okk.nil _ _ (by omega) (by omega), by omega, by omega⟩
      · rw [hb, hM]; exact T2.out.new m3
      · rw [hb']; exact r3
    have TW := Lib.hid two
    have M3 := Lib.hid ((M1.out.trans M2.out).trans m3)
    have HN : Hid (w0.heap.size ≤ b ∧ w0.heap.size ≤ M ∧ w0.heap.size ≤ b') := by show _ ∧ _ ∧ _; omega
    rw [← hb, ← hb']
    clear two r3 m3 hb hM hb' hz T2 M2 M1 s2 s3 h0
    go_wp2_with fail
    have hyz : Hid (x ≤ 256) := by have := HOK.out; unfold NewOk at this; show _ ≤ _; omega
    go_loopw [10] (fun v wr => ∃ (k : Nat) (ks ks' : List (Int × Rq)), v = .int .i64 k ∧ k ≤ len1 ∧ k ≤ 100 ∧ Hid (Both wr b M x y z ks b' (b' + 1) 1 1 1 ks') ∧ Mod (fun _ => False) w0 wr) (fun v _ => 100 - (intOf v).toNat)
    case atStart => exact ⟨0, [], [], rfl, Nat.zero_le _, Nat.zero_le _, TW, M3.out⟩
    case round =>
      obtain ⟨k, ks, ks', rfl, hk, hk100, hB, hm⟩ := hrel
      by_cases hlt : k < len1 ∧ k < 100
      · obtain ⟨hlt1, hlt2⟩ := hlt
        obtain ⟨t, ht⟩ : ∃ t, l[k]? = some t := ⟨_, List.getElem?_eq_getElem (by rw [HL.out.1]; exact hlt1)⟩
        obtain ⟨td, tp, tk, tt⟩ := t
        obtain ⟨hki, X, rfl, c0, c1, c2, c3⟩ := (HL.out.new hm).2.2 k _ ht
        dsimp only at hki c0 c1 c2 c3
        have HKI := Lib.hid hki
        have hlt1' : (k : Int) < len1 := by omega
        have hlt2' : (k : Int) < 100 := by omega
        have HM := Lib.hid hm
        have XB := Lib.hid (X0.out.mod hm (fun h => h))
        clear ht hki hm
        obtain ⟨wv, hwv⟩ : ∃ wv : World, wv = wr := ⟨_, rfl⟩
        rw [← hwv] at hB HM XB c0 c1 c2 c3 ⊢
        clear hwv
        have ma := (Mod.refl (fun _ => False) wv).alloc (.cells #[.int .i64 td, .int .i64 tp, .int .i64 tk, .int .i64 tt] 34)
        have SB := Lib.hid (Blk.new wv #[.int .i64 td, .int .i64 tp, .int .i64 tk, .int .i64 tt] 34)
        have BA := Lib.hid (hB.out.new ma)
        have MA := Lib.hid (HM.out.trans ma)
        have XA := Lib.hid (XB.out.mod ma (fun h => h))
        obtain ⟨wa, hwa⟩ : ∃ wa, wa = wv.alloc (.cells #[.int .i64 td, .int .i64 tp, .int .i64 tk, .int .i64 tt] 34) := ⟨_, rfl⟩
        obtain ⟨BS, hBS⟩ : ∃ B, B = wv.heap.size := ⟨_, rfl⟩
        rw [← hwa, ← hBS] at SB
        rw [← hwa] at BA MA XA
        have HWA := Lib.hid hwa
        have HBS := Lib.hid hBS
        have n4 := hB.out.len
        have HBM : Hid (¬ BS = M) := by have := hB.out.two.t.lt; show ¬ _ = _; omega
        clear ma hwa hBS hB HM XB
        by_cases d0 : td = 0
        · have d0' : (td == 0) = true := by simpa using d0
          clear d0
          go_upto_region 12 with fail
          rw [← HWA.out, ← HBS.out]
          have s0 := SB.out.cell 0; have s1 := SB.out.cell 1; have s2 := SB.out.cell 2; have s3 := SB.out.cell 3
          obtain ⟨r0, r1, r2, hrq⟩ := rqAt_agg ks tk
          have HRQ := Lib.hid hrq
          clear hrq c0 c1 c2 c3
          go_wp2_with fail
          refine (flOf tk b M x y z ks wa HKI.out BA.out.two.t).mono ?_; rw [HRQ.out]; rintro e w5 ⟨rfl, m5⟩
          have mc := m5.alloc (.cells #[.int .i64 r0, .int .i64 r1, .int .i64 r2] TRq)
          have S5 := Lib.hid (SB.out.mod mc (fun h => h))
          have B5 := Lib.hid (BA.out.new mc)
          have M5 := Lib.hid (MA.out.trans mc)
          have X5 := Lib.hid (XA.out.mod mc (fun h => h))
          obtain ⟨w6, hw6⟩ : ∃ w6, w6 = w5.alloc (.cells #[.int .i64 r0, .int .i64 r1, .int .i64 r2] TRq) := ⟨_, rfl⟩
          rw [← hw6] at S5 B5 M5 X5
          have HW6 := Lib.hid hw6
          clear hw6 mc m5 SB BA MA XA s0 s1 s2 s3
          obtain ⟨IS, hIS⟩ : ∃ IS, IS = (lkL ks tk).isSome := ⟨_, rfl⟩
          rw [← hIS]
          have HIS := Lib.hid hIS
          clear hIS
          go_upto_region 13 with fail
          rw [← HW6.out]
          obtain ⟨RB, hRB⟩ : ∃ RB : Bool, RB = (decide ((ks.length : Int) < x) && decide ((many ks tp : Int) < y)) := ⟨_, rfl⟩
          have HRB := Lib.hid hRB
          clear hRB
          have s0 := S5.out.cell 0; have s1 := S5.out.cell 1; have s2 := S5.out.cell 2; have s3 := S5.out.cell 3
          have f0 := X5.out.cell 0; have f1 := X5.out.cell 1
          go_cut [14] from 54 to 192 (fun v wx => v = .bool RB ∧ Mod (fun _ => False) w6 wx)
          case first =>
            have hlenI : ks.length ≤ 256 := n4.1
            by_cases hr1 : (ks.length : Int) < x
            · refine wp_regionO2 [0, 3, 4, 1, 2, 5, 6, 7, 8, 9, 11, 12, 10, 13, 14, 15] [(2, 3), (3, 4), (11, 3), (12, 4)] [] (by kernel_rfl) (by kernel_rfl) (by simp only [List.filterMap_cons, List.filterMap_nil, List.getElem?_cons_zero, List.getElem?_cons_succ]; exact rfl) ?_
              repeat (first | (refine reg_anyT (by rfl) (fun K hK => ?_); go_simp; refine hK _ _ ?_; clear hK K) | (refine reg_read (by rfl) (fun K hK => ?_); go_simp; refine hK _ _ ?_; clear hK K))
              refine reg_hold_v (by rfl) (by rfl) (.int .i64 x) (fun w' hw' => q_load _ _ _ rfl rfl Try.isAgg3 (hw'.cell f0)) ?_
              repeat (first | (refine reg_anyT (by rfl) (fun K hK => ?_); go_simp; refine hK _ _ ?_; clear hK K) | (refine reg_read (by rfl) (fun K hK => ?_); go_simp; refine hK _ _ ?_; clear hK K))
              refine reg_new (by rfl) (fun rn K hK => ?_); go_simp
              refine (flAll b M x y z ks _ (B5.out.two.t.drewN rn) (by omega) B5.out.ok.i64).mono ?_; rintro e w' ⟨v8, rfl, o8, m8⟩
              refine hK _ _ ⟨m8.ex, ?_⟩; clear hK K
              obtain ⟨a8, cap8, rfl, _, _, _⟩ := o8.els
              have B8 := Lib.hid (B5.out.new m8.undrew)
              have M8 := Lib.hid m8.undrew
              have f1' := m8.undrew.cell f1 (fun h => h)
              have s1' := m8.undrew.cell s1 (fun h => h)
              clear o8 m8
              repeat (first | (refine reg_anyT (by rfl) (fun K hK => ?_); go_simp; refine hK _ _ ?_; clear hK K) | (refine reg_read (by rfl) (fun K hK => ?_); go_simp; refine hK _ _ ?_; clear hK K))
              refine reg_hold_v (by rfl) (by rfl) (.int .i64 y) (fun w' hw' => q_load _ _ _ rfl rfl Try.isAgg3 (hw'.cell f1')) ?_
              repeat (first | (refine reg_anyT (by rfl) (fun K hK => ?_); go_simp; refine hK _ _ ?_; clear hK K) | (refine reg_read (by rfl) (fun K hK => ?_); go_simp; refine hK _ _ ?_; clear hK K))
              refine reg_new (by rfl) (fun rn K hK => ?_); go_simp
              refine (flMany tp b M x y z ks _ (B8.out.two.t.drewN rn) (by omega)).mono ?_; rintro e w' ⟨rfl, m9⟩
              refine hK _ _ ⟨m9.ex, ?_⟩; clear hK K
              repeat (first | (refine reg_anyT (by rfl) (fun K hK => ?_); go_simp; refine hK _ _ ?_; clear hK K) | (refine reg_read (by rfl) (fun K hK => ?_); go_simp; refine hK _ _ ?_; clear hK K))
              refine reg_nil (fun nd => ?_)
              have M9 := Lib.hid ((M8.out.trans m9.undrew).drewN nd)
              clear m9
              go_wp2_with fail
              go_meet
              exact ⟨by rw [HRB.out]; simp [hr1], M9.out⟩
            · have hr1' : decide ((ks.length : Int) < x) = false := by simpa using hr1
              have HR1 := Lib.hid hr1'
              clear hr1
              refine wp_regionO2 [0, 3, 4, 1, 2, 5, 6, 7, 8, 9, 11, 12, 10, 13, 14, 15] [(2, 3), (3, 4), (9, 0), (11, 0), (12, 0)] [] (by kernel_rfl) (by kernel_rfl) (by simp only [List.filterMap_cons, List.filterMap_nil, List.getElem?_cons_zero, List.getElem?_cons_succ]; exact rfl) ?_
              repeat (first | (refine reg_anyT (by rfl) (fun K hK => ?_); go_simp; refine hK _ _ ?_; clear hK K) | (refine reg_read (by rfl) (fun K hK => ?_); go_simp; refine hK _ _ ?_; clear hK K))
              refine reg_hold_v (by rfl) (by rfl) (.int .i64 x) (fun w' hw' => q_load _ _ _ rfl rfl Try.isAgg3 (hw'.cell f0)) ?_
              repeat (first | (refine reg_anyT (by rfl) (fun K hK => ?_); go_simp; refine hK _ _ ?_; clear hK K) | (refine reg_read (by rfl) (fun K hK => ?_); go_simp; refine hK _ _ ?_; clear hK K))
              refine reg_new (by rfl) (fun rn K hK => ?_); go_simp
              refine (flAll b M x y z ks _ (B5.out.two.t.drewN rn) (by omega) B5.out.ok.i64).mono ?_; rintro e w' ⟨v8, rfl, o8, m8⟩
              refine hK _ _ ⟨m8.ex, ?_⟩; clear hK K
              obtain ⟨a8, cap8, rfl, _, _, _⟩ := o8.els
              have M8 := Lib.hid m8.undrew
              clear o8 m8
              repeat (first | (refine reg_anyT (by rfl) (fun K hK => ?_); go_simp; refine hK _ _ ?_; clear hK K) | (refine reg_read (by rfl) (fun K hK => ?_); go_simp; refine hK _ _ ?_; clear hK K))
              refine reg_nil (fun nd => ?_)
              go_wp2_with fail
              go_meet
              exact ⟨by rw [HRB.out, HR1.out]; rfl, M8.out.drewN _⟩
          case rest =>
            obtain ⟨rfl, hmc⟩ := hcut
            obtain ⟨w7, hw7⟩ : ∃ w7 : World, w7 = wc := ⟨_, rfl⟩
            rw [← hw7] at hmc ⊢
            clear hw7
            have S7 := Lib.hid (S5.out.mod hmc (fun h => h))
            have B7 := Lib.hid (B5.out.new hmc)
            have M7 := Lib.hid (M5.out.trans hmc)
            clear hmc S5 B5 M5 X5 s0 s1 s2 s3 f0 f1
            have s0 := S7.out.cell 0; have s1 := S7.out.cell 1; have s2 := S7.out.cell 2; have s3 := S7.out.cell 3
            go_upto_region 14 with fail
            obtain ⟨MB, hMB⟩ : ∃ MB : Bool, MB = decide (0 ≤ tp ∧ tp ≤ 65536 ∧ 0 ≤ tk ∧ tk ≤ 1023 ∧ 0 ≤ tt ∧ tt ≤ 1099511627776) := ⟨_, rfl⟩
            have HMB := Lib.hid hMB
            clear hMB
            go_cut [15] from 54 to 192 (fun v wx => v = .bool MB ∧ wx = w7)
            case first =>
              go_wp2_with fail
              all_goals go_meet
              all_goals (refine ⟨?_, rfl⟩; rw [HMB.out])
              all_goals first | (simp; omega) | (simp; done) | (simp_all; done) | (simp_all; omega)
            case rest =>
              obtain ⟨rfl, hwc⟩ := hcut
              rw [hwc]
              clear hwc
              go_wp2_with fail
              refine (flAll b M x y z ks w7 B7.out.two.t (by omega) B7.out.ok.i64).mono ?_; rintro e w8 ⟨v8, rfl, o8, m8⟩
              obtain ⟨a8, cap8, rfl, _, _, _⟩ := o8.els
              have S8 := Lib.hid (S7.out.mod m8 (fun h => h))
              have B8 := Lib.hid (B7.out.new m8)
              have M8 := Lib.hid (M7.out.trans m8)
              clear o8 m8 S7 B7 M7 s0 s1 s2 s3
              have s0 := S8.out.cell 0; have s1 := S8.out.cell 1; have s2 := S8.out.cell 2; have s3 := S8.out.cell 3
              go_wp2_with fail
              refine (flAsk tp tk tt b M x y z ks w8 HKI.out B8.out.two.t (by omega)).mono ?_; rintro e w9 ⟨rfl, t9, m9⟩
              have B9 : Hid (Both w9 b M x y z (askK x y ks tp tk tt) b' (b' + 1) 1 1 1 ks') := ⟨B8.out.two.tmod m9 t9, B8.out.ok.ask tp tk tt, B8.out.ok', B8.out.small, B8.out.small'⟩
              have hbm : BS < w8.heap.size := S8.out.lt
              have M9 := Lib.hid (M8.out.new m9 (by intro i hi; have := HN.out; omega))
              have S9 := Lib.hid (S8.out.mod m9 (by exact HBM.out))
              have HE := Lib.hid (@askE_zero x y ks tp tk tt)
              have HKE := Lib.hid (show askK x y ks tp tk tt = if askE x y ks tp tk tt = 0 then putL ks tk ⟨tp, tt⟩ else ks from rfl)
              obtain ⟨E, hE⟩ : ∃ E, E = askE x y ks tp tk tt := ⟨_, rfl⟩
              rw [← hE] at HKE HE ⊢
              generalize askK x y ks tp tk tt = ks4 at HKE B9
              clear hE t9 m9 S8 B8 M8 s0 s1 s2 s3
              have s0 := S9.out.cell 0; have s1 := S9.out.cell 1; have s2 := S9.out.cell 2; have s3 := S9.out.cell 3
              have HMI : Hid (E = 0 → MB = true ∧ IS = false ∧ RB = true) := by
                intro h
                obtain ⟨h1, h2, h3⟩ := HE.out.1 h
                refine ⟨by rw [HMB.out]; simpa using h1, by rw [HIS.out]; exact h2, by rw [HRB.out]; simp [h3]⟩
              have HMJ : Hid (MB = true → IS = false → RB = true → E = 0) := by
                intro h1 h2 h3
                rw [HMB.out] at h1
                rw [HIS.out] at h2
                rw [HRB.out] at h3
                simp only [Bool.and_eq_true, decide_eq_true_eq] at h1 h3
                exact HE.out.2 ⟨h1, h2, h3⟩
              have n9 := B9.out.len
              by_cases hE0 : E = 0
              · obtain ⟨rfl, hIS, rfl⟩ := HMI.out hE0
                have hk4 := HKE.out
                rw [if_pos hE0] at hk4
                have hlk : lkL ks4 tk = some ⟨tp, tt⟩ := by rw [hk4, lk_put, if_pos rfl]
                have hat : rqAt ks4 tk = .agg #[.int .i64 tp, .int .i64 tk, .int .i64 tt] := by unfold rqAt; rw [hlk]; rfl
                have hnn : lkL ks tk = none := by have := HIS.out; rw [hIS] at this; simpa using this.symm
                have hln4 : (ks4.length : Int) = (ks.length : Int) + 1 := by rw [hk4]; unfold putL; rw [del_of_none hnn, length_insS]; rfl
                subst hE0
                have HLK := Lib.hid hlk; have HAT := Lib.hid hat; have HLN := Lib.hid hln4
                clear hlk hat hnn hln4 hk4 HKE HE HMI HMJ
                clear HMB HRB
                rw [hIS]
                clear HIS
                clear hIS
                go_wp2_with fail
                refine (flOf tk b M x y z ks4 w9 HKI.out B9.out.two.t).mono ?_; rw [HAT.out, HLK.out]; rintro e w10 ⟨rfl, m10⟩
                have mc := m10.alloc (.cells #[.int .i64 tp, .int .i64 tk, .int .i64 tt] TRq)
                have B11 := Lib.hid (B9.out.new mc)
                have M11 := Lib.hid (M9.out.trans mc)
                have S11 := Lib.hid (S9.out.mod mc (fun h => h))
                have CB := Lib.hid (Blk.new w10 #[.int .i64 tp, .int .i64 tk, .int .i64 tt] TRq)
                obtain ⟨w11, hw11⟩ : ∃ w11, w11 = w10.alloc (.cells #[.int .i64 tp, .int .i64 tk, .int .i64 tt] TRq) := ⟨_, rfl⟩
                rw [← hw11] at B11 M11 S11 CB
                have HW11 := Lib.hid hw11
                clear mc m10 hw11 s0 s1 s2 s3
                go_upto_region 18 with fail
                rw [← HW11.out]
                have s0 := S11.out.cell 0; have s1 := S11.out.cell 1; have s2 := S11.out.cell 2; have s3 := S11.out.cell 3
                have y0 := CB.out.cell 0; have y1 := CB.out.cell 1; have y2 := CB.out.cell 2
                go_wp2_with fail
                refine (flAll b M x y z ks4 w11 B11.out.two.t (by omega) B11.out.ok.i64).mono ?_; rintro e w12 ⟨v12, rfl, o12, m12⟩
                obtain ⟨a12, cap12, rfl, _, _, _⟩ := o12.els
                have hln4 := HLN.out
                have B12 := Lib.hid (B11.out.new m12)
                have M12 := Lib.hid (M11.out.trans m12)
                clear o12 m12
                go_wp2_with fail
                exact ⟨⟨k + 1, ks4, ks', by go_num, by omega, by omega, B12, M12.out⟩, by simp [intOf]; omega⟩
              · have hk4 := HKE.out
                rw [if_neg hE0] at hk4
                subst hk4
                have hE0' : (E == 0) = false := by simpa using hE0
                have hMJ : MB = false ∨ RB = false ∨ IS = true := by
                  cases hM : MB <;> cases hR : RB <;> cases hI : IS <;> simp
                  exact hE0 (HMJ.out hM hI hR)
                have ha : rqAt ks4 tk = .agg #[.int .i64 r0, .int .i64 r1, .int .i64 r2] := HRQ.out
                have HA := Lib.hid ha
                clear HKE HE HMI HMJ HMB HRB ha
                rcases hMJ with rfl | hMJ
                · go_wp2_with fail
                  refine (flOf tk b M x y z ks4 w9 HKI.out B9.out.two.t).mono ?_; rw [HA.out, ← HIS.out]; rintro e w10 ⟨rfl, m10⟩
                  have mc := m10.alloc (.cells #[.int .i64 r0, .int .i64 r1, .int .i64 r2] TRq)
                  have B11 := Lib.hid (B9.out.new mc)
                  have M11 := Lib.hid (M9.out.trans mc)
                  have S11 := Lib.hid (S9.out.mod mc (fun h => h))
                  have CB := Lib.hid (Blk.new w10 #[.int .i64 r0, .int .i64 r1, .int .i64 r2] TRq)
                  obtain ⟨w11, hw11⟩ : ∃ w11, w11 = w10.alloc (.cells #[.int .i64 r0, .int .i64 r1, .int .i64 r2] TRq) := ⟨_, rfl⟩
                  rw [← hw11] at B11 M11 S11 CB
                  have HW11 := Lib.hid hw11
                  clear mc m10 hw11 s0 s1 s2 s3
                  go_upto_region 18 with fail
                  rw [← HW11.out]
                  have s0 := S11.out.cell 0; have s1 := S11.out.cell 1; have s2 := S11.out.cell 2; have s3 := S11.out.cell 3
                  have y0 := CB.out.cell 0; have y1 := CB.out.cell 1; have y2 := CB.out.cell 2
                  go_wp2_with fail
                  refine (flAll b M x y z ks4 w11 B11.out.two.t (by omega) B11.out.ok.i64).mono ?_; rintro e w12 ⟨v12, rfl, o12, m12⟩
                  obtain ⟨a12, cap12, rfl, _, _, _⟩ := o12.els
                  have B12 := Lib.hid (B11.out.new m12)
                  have M12 := Lib.hid (M11.out.trans m12)
                  clear o12 m12
                  go_wp2_with fail
                  exact ⟨⟨k + 1, ks4, ks', by go_num, by omega, by omega, B12, M12.out⟩, by simp [intOf]; omega⟩
                · cases MB with
                  | false =>
                    go_wp2_with fail
                    refine (flOf tk b M x y z ks4 w9 HKI.out B9.out.two.t).mono ?_; rw [HA.out, ← HIS.out]; rintro e w10 ⟨rfl, m10⟩
                    have mc := m10.alloc (.cells #[.int .i64 r0, .int .i64 r1, .int .i64 r2] TRq)
                    have B11 := Lib.hid (B9.out.new mc)
                    have M11 := Lib.hid (M9.out.trans mc)
                    have S11 := Lib.hid (S9.out.mod mc (fun h => h))
                    have CB := Lib.hid (Blk.new w10 #[.int .i64 r0, .int .i64 r1, .int .i64 r2] TRq)
                    obtain ⟨w11, hw11⟩ : ∃ w11, w11 = w10.alloc (.cells #[.int .i64 r0, .int .i64 r1, .int .i64 r2] TRq) := ⟨_, rfl⟩
                    rw [← hw11] at B11 M11 S11 CB
                    have HW11 := Lib.hid hw11
                    clear mc m10 hw11 s0 s1 s2 s3
                    go_upto_region 18 with fail
                    rw [← HW11.out]
                    have s0 := S11.out.cell 0; have s1 := S11.out.cell 1; have s2 := S11.out.cell 2; have s3 := S11.out.cell 3
                    have y0 := CB.out.cell 0; have y1 := CB.out.cell 1; have y2 := CB.out.cell 2
                    go_wp2_with fail
                    refine (flAll b M x y z ks4 w11 B11.out.two.t (by omega) B11.out.ok.i64).mono ?_; rintro e w12 ⟨v12, rfl, o12, m12⟩
                    obtain ⟨a12, cap12, rfl, _, _, _⟩ := o12.els
                    have B12 := Lib.hid (B11.out.new m12)
                    have M12 := Lib.hid (M11.out.trans m12)
                    clear o12 m12
                    go_wp2_with fail
                    exact ⟨⟨k + 1, ks4, ks', by go_num, by omega, by omega, B12, M12.out⟩, by simp [intOf]; omega⟩
                  | true =>
                    rcases hMJ with rfl | hMJ
                    · go_wp2_with fail
                      refine (flOf tk b M x y z ks4 w9 HKI.out B9.out.two.t).mono ?_; rw [HA.out, ← HIS.out]; rintro e w10 ⟨rfl, m10⟩
                      have mc := m10.alloc (.cells #[.int .i64 r0, .int .i64 r1, .int .i64 r2] TRq)
                      have B11 := Lib.hid (B9.out.new mc)
                      have M11 := Lib.hid (M9.out.trans mc)
                      have S11 := Lib.hid (S9.out.mod mc (fun h => h))
                      have CB := Lib.hid (Blk.new w10 #[.int .i64 r0, .int .i64 r1, .int .i64 r2] TRq)
                      obtain ⟨w11, hw11⟩ : ∃ w11, w11 = w10.alloc (.cells #[.int .i64 r0, .int .i64 r1, .int .i64 r2] TRq) := ⟨_, rfl⟩
                      rw [← hw11] at B11 M11 S11 CB
                      have HW11 := Lib.hid hw11
                      clear mc m10 hw11 s0 s1 s2 s3
                      go_upto_region 18 with fail
                      rw [← HW11.out]
                      have s0 := S11.out.cell 0; have s1 := S11.out.cell 1; have s2 := S11.out.cell 2; have s3 := S11.out.cell 3
                      have y0 := CB.out.cell 0; have y1 := CB.out.cell 1; have y2 := CB.out.cell 2
                      go_wp2_with fail
                      refine (flAll b M x y z ks4 w11 B11.out.two.t (by omega) B11.out.ok.i64).mono ?_; rintro e w12 ⟨v12, rfl, o12, m12⟩
                      obtain ⟨a12, cap12, rfl, _, _, _⟩ := o12.els
                      have B12 := Lib.hid (B11.out.new m12)
                      have M12 := Lib.hid (M11.out.trans m12)
                      clear o12 m12
                      go_wp2_with fail
                      exact ⟨⟨k + 1, ks4, ks', by go_num, by omega, by omega, B12, M12.out⟩, by simp [intOf]; omega⟩
                    · cases RB with
                      | false =>
                    go_wp2_with fail
                    refine (flOf tk b M x y z ks4 w9 HKI.out B9.out.two.t).mono ?_; rw [HA.out, ← HIS.out]; rintro e w10 ⟨rfl, m10⟩
                    have mc := m10.alloc (.cells #[.int .i64 r0, .int .i64 r1, .int .i64 r2] TRq)
                    have B11 := Lib.hid (B9.out.new mc)
                    have M11 := Lib.hid (M9.out.trans mc)
                    have S11 := Lib.hid (S9.out.mod mc (fun h => h))
                    have CB := Lib.hid (Blk.new w10 #[.int .i64 r0, .int .i64 r1, .int .i64 r2] TRq)
                    obtain ⟨w11, hw11⟩ : ∃ w11, w11 = w10.alloc (.cells #[.int .i64 r0, .int .i64 r1, .int .i64 r2] TRq) := ⟨_, rfl⟩
                    rw [← hw11] at B11 M11 S11 CB
                    have HW11 := Lib.hid hw11
                    clear mc m10 hw11 s0 s1 s2 s3
                    go_upto_region 18 with fail
                    rw [← HW11.out]
                    have s0 := S11.out.cell 0; have s1 := S11.out.cell 1; have s2 := S11.out.cell 2; have s3 := S11.out.cell 3
                    have y0 := CB.out.cell 0; have y1 := CB.out.cell 1; have y2 := CB.out.cell 2
                    go_wp2_with fail
                    refine (flAll b M x y z ks4 w11 B11.out.two.t (by omega) B11.out.ok.i64).mono ?_; rintro e w12 ⟨v12, rfl, o12, m12⟩
                    obtain ⟨a12, cap12, rfl, _, _, _⟩ := o12.els
                    have B12 := Lib.hid (B11.out.new m12)
                    have M12 := Lib.hid (M11.out.trans m12)
                    clear o12 m12
                    go_wp2_with fail
                    exact ⟨⟨k + 1, ks4, ks', by go_num, by omega, by omega, B12, M12.out⟩, by simp [intOf]; omega⟩
                      | true =>
                        have hIS2 := HIS.out
                        rw [hMJ] at hIS2
                        rw [hMJ]
                        have HIS2 := Lib.hid hIS2
                        clear HIS hMJ hIS2
                        go_wp2_with fail
                        refine (flOf tk b M x y z ks4 w9 HKI.out B9.out.two.t).mono ?_; rw [HA.out, ← HIS2.out]; rintro e w10 ⟨rfl, m10⟩
                        have mc := m10.alloc (.cells #[.int .i64 r0, .int .i64 r1, .int .i64 r2] TRq)
                        have B11 := Lib.hid (B9.out.new mc)
                        have M11 := Lib.hid (M9.out.trans mc)
                        have S11 := Lib.hid (S9.out.mod mc (fun h => h))
                        have CB := Lib.hid (Blk.new w10 #[.int .i64 r0, .int .i64 r1, .int .i64 r2] TRq)
                        obtain ⟨w11, hw11⟩ : ∃ w11, w11 = w10.alloc (.cells #[.int .i64 r0, .int .i64 r1, .int .i64 r2] TRq) := ⟨_, rfl⟩
                        rw [← hw11] at B11 M11 S11 CB
                        have HW11 := Lib.hid hw11
                        clear mc m10 hw11 s0 s1 s2 s3
                        go_upto_region 18 with fail
                        rw [← HW11.out]
                        have s0 := S11.out.cell 0; have s1 := S11.out.cell 1; have s2 := S11.out.cell 2; have s3 := S11.out.cell 3
                        have y0 := CB.out.cell 0; have y1 := CB.out.cell 1; have y2 := CB.out.cell 2
                        go_wp2_with fail
                        refine (flAll b M x y z ks4 w11 B11.out.two.t (by omega) B11.out.ok.i64).mono ?_; rintro e w12 ⟨v12, rfl, o12, m12⟩
                        obtain ⟨a12, cap12, rfl, _, _, _⟩ := o12.els
                        have B12 := Lib.hid (B11.out.new m12)
                        have M12 := Lib.hid (M11.out.trans m12)
                        clear o12 m12
                        go_wp2_with fail
                        exact ⟨⟨k + 1, ks4, ks', by go_num, by omega, by omega, B12, M12.out⟩, by simp [intOf]; omega⟩
        · have d0' : (td == 0) = false := by simpa using d0
          go_wp2_with fail
          rw [← HWA.out, ← HBS.out]
          refine (flStep ⟨td, tp, tk, tt⟩ b M x y z ks b' (b' + 1) 1 1 1 ks' wa BA.out HKI.out).mono ?_; rintro e w4 ⟨⟨R, rfl, hR⟩, b4, m4⟩
          have B4 := Lib.hid b4
          have M4 := Lib.hid (MA.out.new m4 (by intro i hi; have := HN.out; rcases hi with rfl | rfl <;> omega))
          clear hR b4 m4 c0 c1 c2 c3
          go_wp2_with fail
          exact ⟨⟨k + 1, _, _, by go_num, by omega, by omega, B4, M4.out⟩, by simp [intOf]; omega⟩
      · have hend : (k : Int) < len1 → ¬ (k : Int) < 100 := by omega
        have HM := Lib.hid hm
        clear hm hlt
        by_cases h6 : (k : Int) < len1
        · have h7 : ¬ (k : Int) < 100 := hend h6
          clear hend
          go_wp2_with fail
          go_ret
          exact ⟨rfl, MX.out.trans HM.out⟩
        · clear hend
          go_wp2_with fail
          go_ret
          exact ⟨rfl, MX.out.trans HM.out⟩
  · have HOK := Lib.hid hok
    clear hok
    go_enter Try.func6, Try.ntmps6
    go_wp2_with fail
    rw [← HW0.out, ← HBX.out]
    refine (awake16 w0).mono ?_; rintro e w1 ⟨rfl, m1⟩
    have X1 := Lib.hid (X0.out.mod m1 (fun h => h))
    have M1 := Lib.hid (MX.out.trans m1)
    have c0 := X1.out.cell 0; have c1 := X1.out.cell 1; have c2 := X1.out.cell 2
    clear m1
    go_wp2_with fail
    refine (flNewBad x y z _ HOK.out).mono ?_; rintro e w' ⟨rfl, rfl⟩
    go_wp2_with fail
    go_ret
    exact ⟨rfl, M1.out⟩
end Go.Proofs.Ytfdmamaldgpbaaa
