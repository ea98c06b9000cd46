/- The walk of the statement MemberBounds: the call returns true and turns nothing that was there; no condition. -/
import Derived.Test.YtagiodagbfahpaaMwS
namespace Go.Proofs.Ytagiodagbfahpaa
open Go Go.RowKit

theorem q_load4o {o : Oper} {a : Act} {w : World} {C : World → Prop} (b f : Nat) (v0 v1 v2 v3 : Int) (x : Operand) (ho : o.op = .load TMb x) (hx : a.eval x = .pointer (some ⟨b, f, none⟩))
    (c0 : w.cell? ⟨b, f, none⟩ = some (.int .i64 v0)) (c1 : w.cell? ⟨b, f + 1, none⟩ = some (.int .i64 v1)) (c2 : w.cell? ⟨b, f + 2, none⟩ = some (.int .i64 v2)) (c3 : w.cell? ⟨b, f + 3, none⟩ = some (.int .i64 v3)) :
    o.quietAt Try.prog a C w (.agg #[.int .i64 v0, .int .i64 v1, .int .i64 v2, .int .i64 v3]) := by
  simp only [Oper.quietAt, execOp, ho, hx]
  simp [Instr.loadAt, Instr.sureAddr, Result.andThen, Oper.quietUpon, go_sem, c0, c1, c2, c3]
theorem keys_nodup {α : Type} {ks : List (Int × α)} (hr : Rising ks) : (keysL ks).Nodup := by
  unfold keysL
  exact List.pairwise_map.2 (hr.imp fun h e => by omega)
theorem gosI_nodup {seed k : Int} {ks : List (Int × Rc)} (hr : Rising ks) : (gosI seed k ks).Nodup := by
  unfold gosI
  refine List.Nodup.sublist (List.take_sublist _ _) ?_
  rw [List.nodup_iff_count]
  intro x
  rw [count_shuffled]
  exact List.nodup_iff_count.1 (keys_nodup hr) x
theorem gosO_keys (seed k : Int) (ks : List (Int × Rc)) : keysL (gosO seed k ks) = gosI seed k ks := by
  unfold keysL gosO
  rw [List.map_map]
  simp [Function.comp_def]
theorem gosO_mem {seed k : Int} {ks : List (Int × Rc)} (hr : Rising ks) {q : Int × Rc} (h : q ∈ gosO seed k ks) : q ∈ ks := by
  unfold gosO at h
  obtain ⟨i, hi, rfl⟩ := List.mem_map.1 h
  obtain ⟨r, hm⟩ := gosI_mem hi
  unfold rd
  rw [lk_of_mem hr hm]
  exact hm
theorem zeroBool (w : World) : (zeroValue 4).run Try.prog w = .ok (.bool false) w := by kernel_rfl
/-- The set of those that were seen. -/
def SeenP (cs : List (Int × Value)) (ids : List Int) : Prop := cs.length ≤ ids.length ∧ ∀ p, lkL cs p = if p ∈ ids then some (.bool true) else none
theorem SeenP.nil : SeenP [] [] := ⟨Nat.le_refl _, fun p => by simp [lkL]⟩
theorem len_putV (cs : List (Int × Value)) (id : Int) (v : Value) : (putL cs id v).length ≤ cs.length + 1 := by
  unfold putL
  rw [length_insS]
  have : (delL cs id).length ≤ cs.length := List.length_filter_le _ _
  omega
theorem SeenP.step {cs : List (Int × Value)} {ids : List Int} (h : SeenP cs ids) (x : Int) : SeenP (putL cs x (.bool true)) (ids ++ [x]) := by
  refine ⟨by have := len_putV cs x (.bool true); have := h.1; rw [List.length_append]; simp; omega, fun p => ?_⟩
  rw [lk_put, h.2]
  by_cases e : p = x
  · subst e; simp
  · rw [if_neg e]
    simp [e]

set_option maxRecDepth 100000 in
set_option maxHeartbeats 4000000 in
theorem memberBounds_walk (most : Int) (a1 : Option Addr) (len1 cap1 : Nat) (l : List Sp) (seed : Int) (w : World) (_ : (Lit.int .i64 most).wf = true) (hl : IsSps w a1 len1 l) (_ : (Lit.int .u64 seed).wf = true) :
    Calls Try.prog 9 #[.int .i64 most, .slice a1 len1 cap1, .int .u64 seed] w fun e w' => e = .returned (.bool true) ∧ Below w.heap.size w w' := by
  refine Calls.mono (R := fun e w' => e = .returned (.bool true) ∧ Mod (fun _ => False) w w') ?_ (fun e w' ⟨h1, h2⟩ => ⟨h1, h2.bel⟩)
  have HL := Lib.hid hl
  have hll : (len1 : Int) ≤ 9223372036854775807 := hl.2.1
  clear hl
  by_cases hok : ViewOk 9 most
  · have HOK := Lib.hid hok
    have hm64 : most ≤ 64 := hok.2.2.2
    have HM64 := Lib.hid hm64
    clear hok hm64
    go_enter Try.func9, Try.ntmps9
    go_wp2_with fail
    refine (awake12 _).mono ?_; rintro e w1 ⟨rfl, m1⟩
    have M1 := Lib.hid m1
    clear m1
    go_wp2_with fail
    refine (memNew 9 most _ HOK.out).mono ?_; rintro e w2 ⟨rfl, va, m2, s2⟩
    have VA := Lib.hid va
    have M2 := Lib.hid (M1.out.trans m2)
    clear va m2
    go_wp2_with fail
    refine (refVNew 9 most _ HOK.out).mono ?_; rintro e w3 ⟨rfl, r3, m3, s3⟩
    obtain ⟨b, hb⟩ : ∃ b, b = w1.heap.size + 1 := ⟨_, rfl⟩
    obtain ⟨M, hM⟩ : ∃ b, b = w1.heap.size := ⟨_, rfl⟩
    obtain ⟨b', hb'⟩ : ∃ b, b = w2.heap.size := ⟨_, rfl⟩
    have hz := M1.out.size
    have two : TwoV w3 b M b' (b' + 1) (9, ⟨0, 1, 0⟩) most [] := by
      refine ⟨?_, ?_, by omega, OkV.nil _ (by have := HOK.out; unfold ViewOk at this; omega)⟩
      · rw [hb, hM]; exact VA.out.new m3
      · rw [hb']; exact r3
    have TW := Lib.hid two
    have M3 := Lib.hid (M2.out.trans m3)
    have HN : Hid (w.heap.size ≤ b ∧ w.heap.size ≤ M ∧ w.heap.size ≤ b') := by show _ ∧ _ ∧ _; omega
    rw [← hb, ← hb']
    clear two r3 m3 hb hM hb' hz VA M2 M1 s2 s3
    go_wp2_with fail
    go_loopw [12] (fun v wr => ∃ (k : Nat) (Sa : Int × Rc) (ks : List (Int × Rc)), v = .int .i64 k ∧ k ≤ len1 ∧ k ≤ 100 ∧ Hid (TwoV wr b M b' (b' + 1) Sa most ks) ∧ Mod (fun _ => False) w wr) (fun v _ => 100 - (intOf v).toNat)
    case atStart => exact ⟨0, _, [], rfl, Nat.zero_le _, Nat.zero_le _, TW, M3.out⟩
    case round =>
      obtain ⟨k, Sa, ks, rfl, hk, hk100, hB, hm⟩ := hrel
      obtain ⟨wq, hwq⟩ : ∃ wq : World, wq = wr := ⟨_, rfl⟩
      rw [← hwq] at hB hm ⊢
      clear hwq
      by_cases hlt : k < len1 ∧ k < 100
      · obtain ⟨hlt1, hlt2⟩ := hlt
        obtain ⟨t, ht⟩ : ∃ t, l[k]? = some t := ⟨_, List.getElem?_eq_getElem (by rw [HL.out.1]; exact hlt1)⟩
        obtain ⟨hki, X, rfl, c0, c1, c2, c3, c4, c5, c6, c7⟩ := (HL.out.new hm).2.2 k t ht
        have HKI := Lib.hid hki.1
        have hlt1' : (k : Int) < len1 := by omega
        have hlt2' : (k : Int) < 100 := by omega
        have HM := Lib.hid hm
        clear ht hki hm
        go_wp2_with fail
        refine (stepBoth t b M b' (b' + 1) Sa most ks wq hB.out HM64.out HKI.out).mono ?_; rintro e w5 ⟨rfl, b5, m5⟩
        have HM5 := Lib.hid (HM.out.new m5 (by intro i hi; have := HN.out; unfold TurnV at hi; omega))
        obtain ⟨ks5, hks5⟩ : ∃ l, l = stepK Sa most ks t := ⟨_, rfl⟩
        obtain ⟨S5, hS5⟩ : ∃ l, l = stepS Sa t := ⟨_, rfl⟩
        rw [← hks5, ← hS5] at b5
        have B5 := Lib.hid b5
        have hlen7 : ks5.length ≤ 64 := B5.out.len HM64.out
        have hlm : ¬ most < (ks5.length : Int) := by have := b5.ok.len; omega
        clear b5 m5 hks5 hS5 hB HM c0 c1 c2 c3 c4 c5 c6 c7
        go_wp2_with fail
        refine (memAll b M S5 most ks5 w5 B5.out.t (by omega) B5.out.ok.i64).mono ?_; rintro e w6 ⟨⟨v6, rfl, o6⟩, m6⟩
        obtain ⟨a6, cap6, rfl, _, _, _⟩ := o6.els
        have B6 := Lib.hid (B5.out.new m6)
        have HM6 := Lib.hid (HM5.out.trans m6)
        clear o6 m6 B5 HM5
        go_wp2_with fail
        refine (memGossip seed 100 b M S5 most ks5 w6 B6.out.t (by omega) B6.out.ok.i64).mono ?_; rintro e w7 ⟨⟨v7, rfl, o7⟩, m7⟩
        have B7 := Lib.hid (B6.out.new m7)
        have HM7 := Lib.hid (HM6.out.trans m7)
        obtain ⟨N, hN⟩ : ∃ N, N = ks5.length := ⟨_, rfl⟩
        obtain ⟨O, hO⟩ : ∃ O, O = gosO seed 100 ks5 := ⟨_, rfl⟩
        have hOl : O.length = N := by rw [hO, gosO_len, hN]; unfold smp; omega
        have HOM := Lib.hid (show ∀ q ∈ O, q ∈ ks5 by rw [hO]; exact fun q hq => gosO_mem B7.out.ok.rising hq)
        have HOD := Lib.hid (show (keysL O).Nodup by rw [hO, gosO_keys]; exact gosI_nodup B7.out.ok.rising)
        have hgl : (gosL S5 seed 100 ks5).length = N + 1 := by unfold gosL; rw [← hO, List.length_append, hOl]; rfl
        have hgo : gosL S5 seed 100 ks5 = O ++ [S5] := by unfold gosL; rw [← hO]
        rw [hgl, hgo] at o7
        rw [← hN] at hlen7 hlm ⊢
        have HNE := Lib.hid hN
        clear hgl hgo hO hN m7 B6 HM6
        obtain ⟨n1, hn1⟩ : ∃ n1, n1 = N + 1 := ⟨_, rfl⟩
        rw [← hn1] at o7
        have o7' := o7
        rcases o7.2 with ⟨rfl, h0⟩ | ⟨g, cap, cur, rfl, hg, hgh, hrest⟩
        · omega
        have O7 := Lib.hid o7'
        have HOL := Lib.hid hOl
        have hN1 : (N : Int) + 1 = (n1 : Int) := by omega
        have hN2 : (n1 : Int) - 1 = (N : Int) := by omega
        have hwN : IntKind.i64.wrap (N : Int) = (N : Int) := by unfold IntKind.wrap; simp [IntKind.bits, IntKind.signed]; omega
        have hwn1 : IntKind.i64.wrap (n1 : Int) = (n1 : Int) := by unfold IntKind.wrap; simp [IntKind.bits, IntKind.signed]; omega
        have hNn : N < n1 := by omega
        have hNn' : (N : Int) < n1 := by omega
        have HCE : Hid (∀ i q, O[i]? = some q → w7.cell? ⟨g, i * 4, none⟩ = some (.int .i64 q.1) ∧ w7.cell? ⟨g, i * 4 + 1, none⟩ = some (.int .i64 q.2.s) ∧ w7.cell? ⟨g, i * 4 + 2, none⟩ = some (.int .i64 q.2.u) ∧ w7.cell? ⟨g, i * 4 + 3, none⟩ = some (.int .i64 q.2.b)) := by
          intro i q hq
          have hil : i < O.length := (List.getElem?_eq_some_iff.1 hq).1
          have hq' : (O ++ [S5])[i]? = some (q.1, q.2) := by rw [List.getElem?_append_left hil]; exact hq
          refine ⟨?_, ?_, ?_, ?_⟩
          · rw [o7'.cellAt (i * 4) (by omega)]; exact recL_get _ i 0 q.1 q.2 hq' (by decide)
          · rw [o7'.cellAt (i * 4 + 1) (by omega)]; exact recL_get _ i 1 q.1 q.2 hq' (by decide)
          · rw [o7'.cellAt (i * 4 + 2) (by omega)]; exact recL_get _ i 2 q.1 q.2 hq' (by decide)
          · rw [o7'.cellAt (i * 4 + 3) (by omega)]; exact recL_get _ i 3 q.1 q.2 hq' (by decide)
        have hqS : (O ++ [S5])[N]? = some (S5.1, S5.2) := by rw [List.getElem?_append_right (by omega)]; simp [hOl]
        have s0 : w7.cell? ⟨g, N * 4, none⟩ = some (.int .i64 S5.1) := by rw [o7'.cellAt (N * 4) (by omega)]; exact recL_get _ N 0 S5.1 S5.2 hqS (by decide)
        have s1 : w7.cell? ⟨g, N * 4 + 1, none⟩ = some (.int .i64 S5.2.s) := by rw [o7'.cellAt (N * 4 + 1) (by omega)]; exact recL_get _ N 1 S5.1 S5.2 hqS (by decide)
        have s2 : w7.cell? ⟨g, N * 4 + 2, none⟩ = some (.int .i64 S5.2.u) := by rw [o7'.cellAt (N * 4 + 2) (by omega)]; exact recL_get _ N 2 S5.1 S5.2 hqS (by decide)
        have s3 : w7.cell? ⟨g, N * 4 + 3, none⟩ = some (.int .i64 S5.2.b) := by rw [o7'.cellAt (N * 4 + 3) (by omega)]; exact recL_get _ N 3 S5.1 S5.2 hqS (by decide)
        have HSF := Lib.hid (fun q => memSelf b M S5 most ks5 (w7.drewN q) (B7.out.t.drewN q))
        unfold rcv at HSF
        have hn1e := Lib.hid hn1
        have hlm' : decide (most < (N : Int)) = false := by simpa using hlm
        have hnn : (n1 != n1) = false := by simp
        clear hrest hg hgh o7 o7' hqS hOl hn1
        go_upto_region 12 with fail
        refine wp_region2 [(15, 0), (18, 3), (20, 4)] [] (by kernel_rfl) (by kernel_rfl) ?_
        repeat (first | (refine reg_anyT (by rfl) (fun K hK => ?_); go_simp; refine hK _ _ ?_; clear hK K) | (refine reg_read (by rfl) (fun K hK => ?_); go_simp; refine hK _ _ ?_; clear hK K))
        refine reg_hold_v (by rfl) (by rfl) (.agg #[.int .i64 S5.1, .int .i64 S5.2.s, .int .i64 S5.2.u, .int .i64 S5.2.b]) (fun w' hw' => q_load4o g (N * 4) _ _ _ _ _ rfl rfl (hw'.cell s0) (hw'.cell s1) (hw'.cell s2) (hw'.cell s3)) ?_
        repeat (first | (refine reg_anyT (by rfl) (fun K hK => ?_); go_simp; refine hK _ _ ?_; clear hK K) | (refine reg_read (by rfl) (fun K hK => ?_); go_simp; refine hK _ _ ?_; clear hK K))
        refine reg_new (by rfl) (fun rn K hK => ?_); go_simp
        refine (HSF.out rn).mono ?_; rintro e w8 ⟨rfl, m8⟩
        refine hK _ _ ⟨m8.ex, ?_⟩; clear hK K
        repeat (first | (refine reg_anyT (by rfl) (fun K hK => ?_); go_simp; refine hK _ _ ?_; clear hK K) | (refine reg_read (by rfl) (fun K hK => ?_); go_simp; refine hK _ _ ?_; clear hK K))
        refine reg_nil (fun nd => ?_)
        have md := m8.undrew.drewN nd
        have B8 := Lib.hid (B7.out.new md)
        have HM8 := Lib.hid (HM7.out.trans md)
        have HC8 : Hid (∀ i q, O[i]? = some q → (w8.drewN nd).cell? ⟨g, i * 4, none⟩ = some (.int .i64 q.1) ∧ (w8.drewN nd).cell? ⟨g, i * 4 + 1, none⟩ = some (.int .i64 q.2.s) ∧ (w8.drewN nd).cell? ⟨g, i * 4 + 2, none⟩ = some (.int .i64 q.2.u) ∧ (w8.drewN nd).cell? ⟨g, i * 4 + 3, none⟩ = some (.int .i64 q.2.b)) := by
          intro i q hq
          obtain ⟨e0, e1, e2, e3⟩ := HCE.out i q hq
          exact ⟨md.cell e0 (fun h => h), md.cell e1 (fun h => h), md.cell e2 (fun h => h), md.cell e3 (fun h => h)⟩
        clear md m8 s0 s1 s2 s3 HSF HCE O7 B7 HM7
        generalize w8.drewN nd = w9 at *
        have hmm := @run_makeMap Try.prog
        go_wp2_with fail
        clear hmm
        have ma := (Mod.refl (fun _ => False) w9).alloc (.map #[] 0)
        have IM := Lib.hid (IMap.made Try.prog 3 w9)
        obtain ⟨wM, hwM⟩ : ∃ w, w = w9.alloc (.map #[] 0) := ⟨_, rfl⟩
        obtain ⟨G, hG⟩ : ∃ G, G = w9.heap.size := ⟨_, rfl⟩
        rw [← hwM] at ma
        rw [← hwM, ← hG] at IM
        rw [← hwM, ← hG]
        have MA := Lib.hid ma
        have HG := Lib.hid hG
        clear ma hwM hG
        go_loopw [16] (fun v ws => ∃ (i : Nat) (cs : List (Int × Value)), v = .int .i64 i ∧ i ≤ N ∧ Hid (SeenP cs ((keysL O).take i)) ∧ Hid (IMap Try.prog 3 ws G cs) ∧ Hid (Mod (fun _ => False) w9 ws)) (fun v _ => N - (intOf v).toNat)
        case atStart => exact ⟨0, [], rfl, Nat.zero_le _, SeenP.nil, IM, MA⟩
        case round =>
          obtain ⟨i, cs, rfl, hi, hcs, him, hmz⟩ := hrel
          obtain ⟨wz, hwz⟩ : ∃ wz : World, wz = wr := ⟨_, rfl⟩
          rw [← hwz] at hmz him ⊢
          clear hwz
          have BZ := Lib.hid (B8.out.new hmz.out)
          have HMZ := Lib.hid (HM8.out.trans hmz.out)
          by_cases hlz : (i : Int) < N
          · obtain ⟨⟨id, r⟩, hkr⟩ : ∃ q, O[i]? = some q := ⟨_, List.getElem?_eq_getElem (by have := HOL.out; omega)⟩
            obtain ⟨e0, e1, e2, e3⟩ := HC8.out i _ hkr
            dsimp only at e0 e1 e2 e3
            have HE := Lib.hid (show _ ∧ _ ∧ _ ∧ _ from ⟨e0, e1, e2, e3⟩)
            have p0 := hmz.out.cell e0 (fun h => h)
            have hmem := HOM.out _ (List.mem_of_getElem? hkr)
            have hlk := lk_of_mem B8.out.ok.rising hmem
            have hI := B8.out.ok.i64 _ hmem
            have HI := Lib.hid hI
            have HOF := Lib.hid (memOf id b M S5 most ks5 wz hI BZ.out.t)
            rw [show idf ks5 id = id by unfold idf; rw [hlk]; rfl, show rd ks5 id = r by unfold rd; rw [hlk]; rfl, show (lkL ks5 id).isSome = true by rw [hlk]; rfl] at HOF
            have HKK := Lib.hid (show (keysL O)[i]? = some id by unfold keysL; rw [List.getElem?_map, hkr]; rfl)
            have HNI : Hid (id ∉ (keysL O).take i) := by
              intro hc
              obtain ⟨j, hj⟩ := List.getElem?_of_mem hc
              rw [List.getElem?_take] at hj
              split at hj
              · rename_i hji
                obtain ⟨hj1, hj2⟩ := List.getElem?_eq_some_iff.1 hj
                obtain ⟨hi1, hi2⟩ := List.getElem?_eq_some_iff.1 HKK.out
                exact (List.pairwise_iff_getElem.1 HOD.out j i hj1 hi1 hji) (hj2.trans hi2.symm)
              · cases hj
            have hiN : i < N := by omega
            have hin1 : i < n1 := by omega
            have hin1' : (i : Int) < n1 := by omega
            have HMZ2 := hmz
            clear hkr hmem hlk hI e0 e1 e2 e3 hmz
            go_wp2_with fail
            refine HOF.out.mono ?_; rintro e wa ⟨rfl, ma⟩
            have mb := ma.alloc (.cells #[.int .i64 id, .int .i64 r.s, .int .i64 r.u, .int .i64 r.b] TMb)
            have XA := Lib.hid (Blk.new wa #[.int .i64 id, .int .i64 r.s, .int .i64 r.u, .int .i64 r.b] TMb)
            have IB := Lib.hid (him.out.mod mb (fun h => h))
            have HMB := Lib.hid (HMZ2.out.trans mb)
            clear ma mb p0 HOF
            go_upto_region 19 with fail
            generalize wa.alloc (.cells #[.int .i64 id, .int .i64 r.s, .int .i64 r.u, .int .i64 r.b] TMb) = wb at *
            obtain ⟨BA, hBA⟩ : ∃ B, B = wa.heap.size := ⟨_, rfl⟩
            rw [← hBA] at XA ⊢
            clear hBA
            have x0 := XA.out.cell 0; have x1 := XA.out.cell 1; have x2 := XA.out.cell 2; have x3 := XA.out.cell 3
            have p0 := HMB.out.cell HE.out.1 (fun h => h); have p1 := HMB.out.cell HE.out.2.1 (fun h => h); have p2 := HMB.out.cell HE.out.2.2.1 (fun h => h); have p3 := HMB.out.cell HE.out.2.2.2 (fun h => h)
            have hl : ∀ n, (Instr.lookup 60 (.map (some G)) (.int .i64 id) false).run Try.prog (wb.drewN n) = .ok (.bool false) (wb.drewN n) := by
              intro n
              have := (IB.out.drewN n).look Try.underlying3 Try.underlying60 (zeroBool _) HI.out
              rw [hcs.out.2, if_neg HNI.out] at this
              exact this
            refine wp_region2 [] [] (by kernel_rfl) (by kernel_rfl) ?_
            repeat (first | (refine reg_anyT (by rfl) (fun K hK => ?_); go_simp; refine hK _ _ ?_; clear hK K) | (refine reg_read (by rfl) (fun K hK => ?_); go_simp; refine hK _ _ ?_; clear hK K))
            refine reg_nil (fun nd => ?_)
            have IC := Lib.hid (IB.out.drewN nd)
            have HMC := Lib.hid (HMB.out.drewN nd)
            have x0' : (wb.drewN nd).cell? ⟨BA, 0, none⟩ = some (.int .i64 id) := x0
            clear p0 p1 p2 p3 x0 x1 x2 x3 hl
            generalize wb.drewN nd = wc at *
            obtain ⟨wd, hrun, him2, hm2, hz2⟩ := IC.out.put Try.underlying3 Try.underlying60 (by have := hcs.out.1; rw [List.length_take] at this; unfold maxLen; omega) HI.out (.bool true)
            have IM2 := Lib.hid him2
            have HM2 := Lib.hid (HMC.out.new hm2 (by intro j hj; have := HG.out; omega))
            have HS2 := Lib.hid (hcs.out.step id)
            have HTK := Lib.hid (show (keysL O).take (i + 1) = (keysL O).take i ++ [id] by rw [List.take_add_one, HKK.out]; rfl)
            clear him2 hm2 hz2
            go_wp2_with fail
            refine ⟨⟨i + 1, _, by go_num, by omega, ?_, IM2, HM2⟩, by simp [intOf]; omega⟩
            show SeenP _ _
            rw [HTK.out]
            exact HS2.out
          · have hiN : i = N := by omega
            obtain ⟨R1, R2, hR⟩ : ∃ R1 R2, (R1, R2) = probeR seed ks5 := ⟨_, _, rfl⟩
            have HPR := Lib.hid (memProbe seed b M S5 most ks5 wz BZ.out.t (by have := HNE.out; omega))
            rw [← hR] at HPR
            dsimp only at HPR
            have hI : I64 R1 := by
              cases hb : R2 with
              | true =>
                rw [hb] at hR
                obtain ⟨r, hr, _⟩ := probe_mem hR.symm
                exact B8.out.ok.i64 _ hr
              | false =>
                have : R1 = 0 := by
                  unfold probeR at hR
                  split at hR
                  · cases hR; rfl
                  · rw [hb] at hR; cases hR
                rw [this]
                exact i64_of (by decide) (by decide)
            have HI := Lib.hid hI
            have HPM : Hid (R2 = true → (lkL ks5 R1).isSome = true ∧ (rd ks5 R1).u ≠ 3) := by
              intro hb
              rw [hb] at hR
              obtain ⟨r, hr, hu⟩ := probe_mem hR.symm
              have hl := lk_of_mem B8.out.ok.rising hr
              unfold rd
              rw [hl]
              exact ⟨rfl, hu⟩
            clear hI hR hcs him hiN
            go_wp2_with fail
            refine HPR.out.mono ?_; rintro e wa ⟨rfl, ma⟩
            have BA := Lib.hid (BZ.out.new ma)
            have HMA := Lib.hid (HMZ.out.trans ma)
            clear ma HPR
            obtain ⟨rs, hrs⟩ : ∃ x, x = (rd ks5 R1).s := ⟨_, rfl⟩
            obtain ⟨ru, hru⟩ : ∃ x, x = (rd ks5 R1).u := ⟨_, rfl⟩
            obtain ⟨rb, hrb⟩ : ∃ x, x = (rd ks5 R1).b := ⟨_, rfl⟩
            obtain ⟨ri, hri⟩ : ∃ x, x = idf ks5 R1 := ⟨_, rfl⟩
            obtain ⟨o, ho⟩ : ∃ o, o = (lkL ks5 R1).isSome := ⟨_, rfl⟩
            have HOF := Lib.hid (memOf R1 b M S5 most ks5 wa HI.out BA.out.t)
            rw [← hrs, ← hru, ← hrb, ← hri, ← ho] at HOF
            rw [← hru, ← ho] at HPM
            clear hrs hru hrb hri ho
            go_wp2_with fail
            refine HOF.out.mono ?_; rintro e wb ⟨rfl, mb⟩
            have mc := mb.alloc (.cells #[.int .i64 ri, .int .i64 rs, .int .i64 ru, .int .i64 rb] TMb)
            have BC := Lib.hid (BA.out.new mc)
            have HMC := Lib.hid (HMA.out.trans mc)
            clear mb mc HOF
            obtain rfl | rfl : R2 = true ∨ R2 = false := by cases R2 <;> simp
            · have hp := HPM.out rfl
              have ho := hp.1
              subst ho
              have hu3 : (ru == 3) = false := by simpa using hp.2
              clear hp
              go_wp2_with fail
              exact ⟨⟨k + 1, S5, ks5, by go_num, by omega, by omega, BC, HMC.out⟩, by simp [intOf]; omega⟩
            · go_wp2_with fail
              exact ⟨⟨k + 1, S5, ks5, by go_num, by omega, by omega, BC, HMC.out⟩, by simp [intOf]; omega⟩
      · have hend : (k : Int) < len1 → ¬ (k : Int) < 100 := by omega
        by_cases h6 : (k : Int) < len1
        · have h7 : ¬ (k : Int) < 100 := hend h6
          clear hend
          go_wp2_with fail
          go_ret
          exact ⟨rfl, hm⟩
        · clear hend
          go_wp2_with fail
          go_ret
          exact ⟨rfl, hm⟩
  · have HOK := Lib.hid hok
    clear hok
    go_enter Try.func9, Try.ntmps9
    go_wp2_with fail
    refine (awake12 _).mono ?_; rintro e w1 ⟨rfl, m1⟩
    have M1 := Lib.hid m1
    clear m1
    go_wp2_with fail
    refine (memNewBad 9 most _ HOK.out).mono ?_; rintro e w' ⟨rfl, rfl⟩
    go_wp2_with fail
    go_ret
    exact ⟨rfl, M1.out⟩
end Go.Proofs.Ytagiodagbfahpaa
