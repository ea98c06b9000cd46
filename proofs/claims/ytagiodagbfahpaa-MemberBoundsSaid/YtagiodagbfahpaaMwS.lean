/- The walk of the statement MemberScripts: the call returns true and turns nothing that was there; no condition. -/
import Derived.Test.YtagiodagbfahpaaSnO
namespace Go.Proofs.Ytagiodagbfahpaa
open Go Go.RowKit

theorem q_load4 {o : Oper} {a : Act} {w : World} {C : World → Prop} (b : Nat) (v0 v1 v2 v3 : Int) (x : Operand) (ho : o.op = .load TMb x) (hx : a.eval x = .pointer (some ⟨b, 0, none⟩))
    (c0 : w.cell? ⟨b, 0, none⟩ = some (.int .i64 v0)) (c1 : w.cell? ⟨b, 1, none⟩ = some (.int .i64 v1)) (c2 : w.cell? ⟨b, 2, none⟩ = some (.int .i64 v2)) (c3 : w.cell? ⟨b, 3, none⟩ = some (.int .i64 v3)) :
    o.quietAt Try.prog a C w (.agg #[.int .i64 v0, .int .i64 v1, .int .i64 v2, .int .i64 v3]) := by
  simp only [Oper.quietAt, execOp, ho, hx]
  simp [Instr.loadAt, Instr.sureAddr, Result.andThen, Oper.quietUpon, go_sem, c0, c1, c2, c3]
set_option maxRecDepth 100000 in
set_option maxHeartbeats 4000000 in
theorem memberScripts_walk (self most : Int) (a1 : Option Addr) (len1 cap1 : Nat) (l : List Sp) (w : World) (_ : (Lit.int .i64 self).wf = true) (_ : (Lit.int .i64 most).wf = true) (hl : IsSps w a1 len1 l) :
    Calls Try.prog 7 #[.int .i64 self, .int .i64 most, .slice a1 len1 cap1] w fun e w' => e = .returned (.bool true) ∧ Below w.heap.size w w' := by
  refine Calls.mono (R := fun e w' => e = .returned (.bool true) ∧ Mod (fun _ => False) w w') ?_ (fun e w' ⟨h1, h2⟩ => ⟨h1, h2.bel⟩)
  have HL := Lib.hid hl
  have hll : (len1 : Int) ≤ 9223372036854775807 := hl.2.1
  clear hl
  by_cases hok : ViewOk self most
  · have HOK := Lib.hid hok
    have hm64 : most ≤ 64 := hok.2.2.2
    have HM64 := Lib.hid hm64
    clear hok hm64
    go_enter Try.func7, Try.ntmps7
    go_wp2_with fail
    refine (awake12 _).mono ?_; rintro e w1 ⟨rfl, m1⟩
    have M1 := Lib.hid m1
    clear m1
    go_wp2_with fail
    refine (memNew self most _ HOK.out).mono ?_; rintro e w2 ⟨rfl, va, m2, s2⟩
    have VA := Lib.hid va
    have M2 := Lib.hid (M1.out.trans m2)
    clear va m2
    go_wp2_with fail
    refine (refVNew self most _ HOK.out).mono ?_; rintro e w3 ⟨rfl, r3, m3, s3⟩
    obtain ⟨b, hb⟩ : ∃ b, b = w1.heap.size + 1 := ⟨_, rfl⟩
    obtain ⟨M, hM⟩ : ∃ b, b = w1.heap.size := ⟨_, rfl⟩
    obtain ⟨b', hb'⟩ : ∃ b, b = w2.heap.size := ⟨_, rfl⟩
    have hz := M1.out.size
    have two : TwoV w3 b M b' (b' + 1) (self, ⟨0, 1, 0⟩) most [] := by
      refine ⟨?_, ?_, by omega, OkV.nil _ (by have := HOK.out; unfold ViewOk at this; omega)⟩
      · rw [hb, hM]; exact VA.out.new m3
      · rw [hb']; exact r3
    have TW := Lib.hid two
    have M3 := Lib.hid (M2.out.trans m3)
    have HN : Hid (w.heap.size ≤ b ∧ w.heap.size ≤ M ∧ w.heap.size ≤ b') := by show _ ∧ _ ∧ _; omega
    rw [← hb, ← hb']
    clear two r3 m3 hb hM hb' hz VA M2 M1 s2 s3
    go_wp2_with fail
    go_loopw [12] (fun v wr => ∃ (k : Nat) (Sa : Int × Rc) (ks : List (Int × Rc)), v = .int .i64 k ∧ k ≤ len1 ∧ k ≤ 150 ∧ Hid (TwoV wr b M b' (b' + 1) Sa most ks) ∧ Mod (fun _ => False) w wr) (fun v _ => 150 - (intOf v).toNat)
    case atStart => exact ⟨0, _, [], rfl, Nat.zero_le _, Nat.zero_le _, TW, M3.out⟩
    case round =>
      obtain ⟨k, Sa, ks, rfl, hk, hk150, hB, hm⟩ := hrel
      by_cases hlt : k < len1 ∧ k < 150
      · obtain ⟨hlt1, hlt2⟩ := hlt
        obtain ⟨t, ht⟩ : ∃ t, l[k]? = some t := ⟨_, List.getElem?_eq_getElem (by rw [HL.out.1]; exact hlt1)⟩
        obtain ⟨hki, X, rfl, c0, c1, c2, c3, c4, c5, c6, c7⟩ := (HL.out.new hm).2.2 k t ht
        have HKI := Lib.hid hki.1
        have HT := Lib.hid ht
        have hlt1' : (k : Int) < len1 := by omega
        have hlt2' : (k : Int) < 150 := by omega
        have HM := Lib.hid hm
        clear ht hki hm
        go_wp2_with fail
        refine (stepBoth t b M b' (b' + 1) Sa most ks wr hB.out HM64.out HKI.out).mono ?_; rintro e w5 ⟨rfl, b5, m5⟩
        have hm5 : Mod (fun _ => False) w w5 := HM.out.new m5 (by intro i hi; have := HN.out; unfold TurnV at hi; omega)
        have HM5 := Lib.hid hm5
        obtain ⟨ks5, hks5⟩ : ∃ l, l = stepK Sa most ks t := ⟨_, rfl⟩
        obtain ⟨S5, hS5⟩ : ∃ l, l = stepS Sa t := ⟨_, rfl⟩
        rw [← hks5, ← hS5] at b5
        have B5 := Lib.hid b5
        obtain ⟨_, X', hX', c0, c1, c2, c3, c4, c5, c6, c7⟩ := (HL.out.new hm5).2.2 k t HT.out
        cases hX'
        have hlen7 : ks5.length ≤ 64 := B5.out.len HM64.out
        clear b5 m5 hm5 hks5 hS5 hB HM c0 c1 c2 c3 c4 c6 c7
        obtain ⟨ar, capr, _, d5, _, _, _, hor, _⟩ := B5.out.r.at
        have HAL := Lib.hid (fun q => memAll b M S5 most ks5 (w5.drewN q) (B5.out.t.drewN q) (by omega) B5.out.ok.i64)
        go_upto_region 10 with fail
        refine wp_regionO2 [0, 2, 3, 4, 5, 1, 6, 7] [(4, 3), (5, 4)] [] (by kernel_rfl) (by kernel_rfl) (by simp only [List.filterMap_cons, List.filterMap_nil, List.getElem?_cons_zero, List.getElem?_cons_succ]; exact rfl) ?_
        repeat (first | (refine reg_anyT (by rfl) (fun K hK => ?_); go_simp; refine hK _ _ ?_; clear hK K) | (refine reg_read (by rfl) (fun K hK => ?_); go_simp; refine hK _ _ ?_; clear hK K))
        refine reg_hold_v (by rfl) (by rfl) (.slice ar ks5.length capr) (fun w' hw' => q_load _ _ _ rfl rfl Try.isAgg22 (hw'.cell d5)) ?_
        repeat (first | (refine reg_anyT (by rfl) (fun K hK => ?_); go_simp; refine hK _ _ ?_; clear hK K) | (refine reg_read (by rfl) (fun K hK => ?_); go_simp; refine hK _ _ ?_; clear hK K))
        refine reg_new (by rfl) (fun rn K hK => ?_); go_simp
        refine (HAL.out rn).mono ?_; rintro e w6 ⟨⟨v6, rfl, o6⟩, m6⟩
        refine hK _ _ ⟨m6.ex, ?_⟩; clear hK K
        have B6 := Lib.hid (B5.out.new m6.undrew)
        have HM6 := Lib.hid (HM5.out.trans m6.undrew)
        have HSM := Lib.hid (fun q => refSameL v6 (.slice ar ks5.length capr) _ _ ks5 (w6.drewN q) (owns_new o6 ((Mod.refl (fun _ => False) w6).drewN q)) (owns_new hor.out (m6.undrew.drewN q)) (by omega))
        have f5 := m6.undrew.cell c5 (fun h => h)
        clear o6 m6 B5 HM5 c5 d5 hor HAL
        repeat (first | (refine reg_anyT (by rfl) (fun K hK => ?_); go_simp; refine hK _ _ ?_; clear hK K) | (refine reg_read (by rfl) (fun K hK => ?_); go_simp; refine hK _ _ ?_; clear hK K))
        refine reg_eff (by rfl) (fun rn K hK => ?_); go_simp
        refine (HSM.out _).mono ?_; rintro e w' ⟨rfl, m7⟩
        refine hK _ _ ?_; clear hK K
        repeat (first | (refine reg_anyT (by rfl) (fun K hK => ?_); go_simp; refine hK _ _ ?_; clear hK K) | (refine reg_read (by rfl) (fun K hK => ?_); go_simp; refine hK _ _ ?_; clear hK K))
        refine reg_nil (fun nd => ?_)
        have m7' := m7.undrew.drewN nd
        have B7 := Lib.hid (B6.out.new m7')
        have HM7 := Lib.hid (HM6.out.trans m7')
        have c5 := m7'.cell f5 (fun h => h)
        clear m7 m7' B6 HM6 f5 HSM
        generalize World.drewN w' nd = w7 at *
        obtain ⟨rs, hrs⟩ : ∃ r, r = (rd ks5 t.n).s := ⟨_, rfl⟩
        obtain ⟨ru, hru⟩ : ∃ r, r = (rd ks5 t.n).u := ⟨_, rfl⟩
        obtain ⟨rb, hrb⟩ : ∃ r, r = (rd ks5 t.n).b := ⟨_, rfl⟩
        obtain ⟨ri, hri⟩ : ∃ r, r = idf ks5 t.n := ⟨_, rfl⟩
        obtain ⟨o, ho⟩ : ∃ o, o = (lkL ks5 t.n).isSome := ⟨_, rfl⟩
        have HO1 := Lib.hid (memOf t.n b M S5 most ks5 w7 HKI.out B7.out.t)
        rw [← hrs, ← hru, ← hrb, ← hri, ← ho] at HO1
        go_wp2_with fail
        refine HO1.out.mono ?_; rintro e w8 ⟨rfl, m8⟩
        have ma := m8.alloc (.cells #[.int .i64 ri, .int .i64 rs, .int .i64 ru, .int .i64 rb] TMb)
        have XA := Lib.hid (Blk.new w8 #[.int .i64 ri, .int .i64 rs, .int .i64 ru, .int .i64 rb] TMb)
        have B8 := Lib.hid (B7.out.new ma)
        have HM8 := Lib.hid (HM7.out.trans ma)
        have f5 := ma.cell c5 (fun h => h)
        have HO2 := Lib.hid (refVOf t.n b' (b' + 1) S5 most ks5 _ B8.out.r (by omega) B8.out.ok.rising)
        rw [← hrs, ← hru, ← hrb, ← hri, ← ho] at HO2
        clear hrs hru hrb hri ho m8 ma c5 B7 HM7 HO1
        go_upto_region 12 with fail
        generalize w8.alloc (.cells #[.int .i64 ri, .int .i64 rs, .int .i64 ru, .int .i64 rb] TMb) = w9 at *
        obtain ⟨BA, hBA⟩ : ∃ B, B = w8.heap.size := ⟨_, rfl⟩
        rw [← hBA] at XA ⊢
        clear hBA
        go_wp2_with fail
        refine HO2.out.mono ?_; rintro e w10 ⟨rfl, m10⟩
        have ma := m10.alloc (.cells #[.int .i64 ri, .int .i64 rs, .int .i64 ru, .int .i64 rb] TMb)
        have YA := Lib.hid (Blk.new w10 #[.int .i64 ri, .int .i64 rs, .int .i64 ru, .int .i64 rb] TMb)
        have XB := Lib.hid (XA.out.mod ma (fun h => h))
        have B9 := Lib.hid (B8.out.new ma)
        have HM9 := Lib.hid (HM8.out.trans ma)
        clear m10 ma f5 B8 HM8 HO2 XA
        go_upto_region 13 with fail
        generalize w10.alloc (.cells #[.int .i64 ri, .int .i64 rs, .int .i64 ru, .int .i64 rb] TMb) = w11 at *
        obtain ⟨BB, hBB⟩ : ∃ B, B = w10.heap.size := ⟨_, rfl⟩
        rw [← hBB] at YA ⊢
        clear hBB
        have HSF := Lib.hid (fun q => memSelf b M S5 most ks5 (w11.drewN q) (B9.out.t.drewN q))
        have x0 := XB.out.cell 0; have x1 := XB.out.cell 1; have x2 := XB.out.cell 2; have x3 := XB.out.cell 3
        have y0 := YA.out.cell 0; have y1 := YA.out.cell 1; have y2 := YA.out.cell 2; have y3 := YA.out.cell 3
        have z0 : w11.cell? ⟨b', 0, none⟩ = some (.int .i64 S5.1) := B9.out.r.hd 0
        have z1 : w11.cell? ⟨b', 1, none⟩ = some (.int .i64 S5.2.s) := B9.out.r.hd 1
        have z2 : w11.cell? ⟨b', 2, none⟩ = some (.int .i64 S5.2.u) := B9.out.r.hd 2
        have z3 : w11.cell? ⟨b', 3, none⟩ = some (.int .i64 S5.2.b) := B9.out.r.hd 3
        unfold rcv at HSF
        refine wp_regionO2 [0, 1, 2, 3, 4, 5, 6, 7, 9, 10, 11, 12, 8, 13, 14, 15, 16, 17, 18, 19, 20, 21, 22, 23, 24] [(11, 3), (12, 4)] [] (by kernel_rfl) (by kernel_rfl) (by simp only [List.filterMap_cons, List.filterMap_nil, List.getElem?_cons_zero, List.getElem?_cons_succ]; exact rfl) ?_
        repeat (first | (refine reg_anyT (by rfl) (fun K hK => ?_); go_simp; refine hK _ _ ?_; clear hK K) | (refine reg_read (by rfl) (fun K hK => ?_); go_simp; refine hK _ _ ?_; clear hK K))
        refine reg_hold_v (by rfl) (by rfl) (.agg #[.int .i64 S5.1, .int .i64 S5.2.s, .int .i64 S5.2.u, .int .i64 S5.2.b]) (fun w' hw' => q_load4 b' _ _ _ _ _ rfl rfl (hw'.cell z0) (hw'.cell z1) (hw'.cell z2) (hw'.cell z3)) ?_
        repeat (first | (refine reg_anyT (by rfl) (fun K hK => ?_); go_simp; refine hK _ _ ?_; clear hK K) | (refine reg_read (by rfl) (fun K hK => ?_); go_simp; refine hK _ _ ?_; clear hK K))
        refine reg_new (by rfl) (fun rn K hK => ?_); go_simp
        refine (HSF.out rn).mono ?_; rintro e w12 ⟨rfl, m12⟩
        refine hK _ _ ⟨m12.ex, ?_⟩; clear hK K
        have f0 := m12.undrew.cell x0 (fun h => h); have f1 := m12.undrew.cell x1 (fun h => h); have f2 := m12.undrew.cell x2 (fun h => h); have f3 := m12.undrew.cell x3 (fun h => h)
        have g0 := m12.undrew.cell y0 (fun h => h); have g1 := m12.undrew.cell y1 (fun h => h); have g2 := m12.undrew.cell y2 (fun h => h); have g3 := m12.undrew.cell y3 (fun h => h)
        repeat (first | (refine reg_anyT (by rfl) (fun K hK => ?_); go_simp; refine hK _ _ ?_; clear hK K) | (refine reg_read (by rfl) (fun K hK => ?_); go_simp; refine hK _ _ ?_; clear hK K))
        refine reg_nil (fun nd => ?_)
        have md := m12.undrew.drewN nd
        have BC := Lib.hid (B9.out.new md)
        have MC := Lib.hid (HM9.out.trans md)
        clear md m12 f0 f1 f2 f3 g0 g1 g2 g3 x0 x1 x2 x3 y0 y1 y2 y3 z0 z1 z2 z3
        go_wp2_with fail
        exact ⟨⟨k + 1, S5, ks5, by go_num, by omega, by omega, BC, MC.out⟩, by simp [intOf]; omega⟩
      · have hend : (k : Int) < len1 → ¬ (k : Int) < 150 := by omega
        by_cases h6 : (k : Int) < len1
        · have h7 : ¬ (k : Int) < 150 := hend h6
          clear hend
          go_wp2_with fail
          go_ret
          exact ⟨rfl, hm⟩
        · clear hend
          go_wp2_with fail
          go_ret
          exact ⟨rfl, hm⟩
  · have HOK := Lib.hid hok
    clear hok
    go_enter Try.func7, Try.ntmps7
    go_wp2_with fail
    refine (awake12 _).mono ?_; rintro e w1 ⟨rfl, m1⟩
    have M1 := Lib.hid m1
    clear m1
    go_wp2_with fail
    refine (memNewBad self most _ HOK.out).mono ?_; rintro e w' ⟨rfl, rfl⟩
    go_wp2_with fail
    refine (refVNewBad self most _ HOK.out).mono ?_; rintro e w' ⟨rfl, rfl⟩
    go_wp2_with fail
    go_loopw [12] (fun v wr => v = .int .i64 0 ∧ wr = w1) (fun _ _ => 0)
    case atStart => exact ⟨rfl, rfl⟩
    case round =>
      obtain ⟨rfl, rfl⟩ := hrel
      by_cases h6 : (0 : Int) < len1
      · go_wp2_with fail
        go_ret
        exact ⟨rfl, M1.out⟩
      · go_wp2_with fail
        go_ret
        exact ⟨rfl, M1.out⟩
end Go.Proofs.Ytagiodagbfahpaa
