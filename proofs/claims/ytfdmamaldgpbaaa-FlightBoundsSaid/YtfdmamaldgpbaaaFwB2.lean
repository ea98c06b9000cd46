/- The walk of the statement FlightBounds: the call returns true and turns nothing that was there; no condition. -/
import Derived.Test.YtfdmamaldgpbaaaFwD
namespace Go.Proofs.Ytfdmamaldgpbaaa
open Go Go.RowKit

/-- A map that counts. -/
abbrev cV (cs : List (Int × Int)) : List (Int × Value) := mpV (fun _ n => .int .i64 n) cs
def cnt (cs : List (Int × Int)) (p : Int) : Int := (lkL cs p).getD 0
theorem cnt_put (cs : List (Int × Int)) (p : Int) (n : Int) (q : Int) : cnt (putL cs p n) q = if q = p then n else cnt cs q := by
  unfold cnt
  rw [lk_put]
  split <;> rfl
theorem length_put_le {α : Type} (l : List (Int × α)) (k : Int) (v : α) : (putL l k v).length ≤ l.length + 1 := by
  unfold putL
  rw [length_insS]
  have := List.length_filter_le (fun p : Int × α => decide (p.1 ≠ k)) l
  show (List.filter _ l).length + 1 ≤ _
  omega
theorem zeroInt (w : World) : (zeroValue 3).run Try.prog w = .ok (.int .i64 0) w := by kernel_rfl
theorem many_take (ks : List (Int × Rq)) (k : Nat) (x : Int) (r : Rq) (h : ks[k]? = some (x, r)) (p : Int) : many (ks.take (k + 1)) p = many (ks.take k) p + if r.p = p then 1 else 0 := by
  unfold many
  rw [filter_take _ ks k (x, r) h, List.length_append]
  by_cases e : r.p = p <;> simp [e]
theorem many_take_le (ks : List (Int × Rq)) (k : Nat) (p : Int) : many (ks.take k) p ≤ many ks p := filter_len_le _ ks k
theorem rising_get {α : Type} {ks : List (Int × α)} (h : Rising ks) {i : Nat} {q q' : Int × α} (h1 : ks[i]? = some q) (h2 : ks[i + 1]? = some q') : q.1 < q'.1 := by
  have hi := (List.getElem?_eq_some_iff.1 h1)
  have hj := (List.getElem?_eq_some_iff.1 h2)
  obtain ⟨hi1, rfl⟩ := hi
  obtain ⟨hj1, rfl⟩ := hj
  exact List.pairwise_iff_getElem.1 h i (i + 1) hi1 hj1 (Nat.lt_succ_self i)

set_option maxRecDepth 100000 in
set_option maxHeartbeats 8000000 in
theorem flightBounds_walk (z0 : X3) (a1 : Option Addr) (len1 cap1 : Nat) (l : List St) (w : World) (_ : True) (hl : IsSteps w a1 len1 l) :
    Calls Try.prog 4 #[x3V z0, .slice a1 len1 cap1] w fun e w' => e = .returned (.bool true) ∧ Below w.heap.size w w' := by
  refine Calls.mono (R := fun e w' => e = .returned (.bool true) ∧ Mod (fun _ => False) w w') ?_ (fun e w' ⟨h1, h2⟩ => ⟨h1, h2.bel⟩)
  obtain ⟨x, y, z⟩ := z0
  unfold x3V
  dsimp only
  have HL0 := Lib.hid hl
  have hll : (len1 : Int) ≤ 9223372036854775807 := hl.2.1
  clear hl
  have mx := (Mod.refl (fun _ => False) w).alloc (.cells #[.int .i64 x, .int .i64 y, .int .i64 z] 22)
  have X0 := Lib.hid (Blk.new w #[.int .i64 x, .int .i64 y, .int .i64 z] 22)
  have MX := Lib.hid mx
  obtain ⟨w0, hw0⟩ : ∃ w0, w0 = w.alloc (.cells #[.int .i64 x, .int .i64 y, .int .i64 z] 22) := ⟨_, rfl⟩
  obtain ⟨BX, hBX⟩ : ∃ BX, BX = w.heap.size := ⟨_, rfl⟩
  rw [← hw0, ← hBX] at X0
  rw [← hw0] at MX
  have HW0 := Lib.hid hw0
  have HBX := Lib.hid hBX
  have HL := Lib.hid (HL0.out.new MX.out)
  have HXL := Lib.hid X0.out.lt
  clear mx hw0 hBX
  by_cases hok : NewOk x y z
  · have HOK := Lib.hid hok
    clear hok
    go_enter Try.func4, Try.ntmps4
    go_wp2_with fail
    rw [← HW0.out, ← HBX.out]
    refine (awake16 w0).mono ?_; rintro e w1 ⟨rfl, m1⟩
    have X1 := Lib.hid (X0.out.mod m1 (fun h => h))
    have M1 := Lib.hid m1
    have c0 := X1.out.cell 0; have c1 := X1.out.cell 1; have c2 := X1.out.cell 2
    clear m1
    go_wp2_with fail
    refine (flNew x y z _ HOK.out).mono ?_; rintro e w2 ⟨rfl, t2, m2, s2⟩
    have T2 := Lib.hid t2
    have M2 := Lib.hid m2
    clear t2 m2 c0 c1 c2
    go_wp2_with fail
    refine (refNew 1 1 1 _ (by unfold NewOk; omega)).mono ?_; rintro e w3 ⟨rfl, r3, m3, s3⟩
    obtain ⟨b, hb⟩ : ∃ b, b = w1.heap.size + 1 := ⟨_, rfl⟩
    obtain ⟨M, hM⟩ : ∃ b, b = w1.heap.size := ⟨_, rfl⟩
    obtain ⟨b', hb'⟩ : ∃ b, b = w2.heap.size := ⟨_, rfl⟩
    have hz : w0.heap.size ≤ w1.heap.size := M1.out.size
    have h0 := HOK.out
    unfold NewOk at h0
    have two : Both w3 b M x y z [] b' (b' + 1) 1 1 1 [] := by
      refine ⟨⟨?_, ?_, by omega, by omega, by omega, by omega, by omega⟩, Okk.nil _ _ (by omega) (by omega), Okk.nil _ _ (by omega) (by omega), by omega, by omega⟩
      · rw [hb, hM]; exact T2.out.new m3
      · rw [hb']; exact r3
    have TW := Lib.hid two
    have M3 := Lib.hid ((M1.out.trans M2.out).trans m3)
    have HN : Hid (w0.heap.size ≤ b ∧ w0.heap.size ≤ M ∧ w0.heap.size ≤ b') := by show _ ∧ _ ∧ _; omega
    rw [← hb, ← hb']
    clear two r3 m3 hb hM hb' hz T2 M2 M1 s2 s3 h0
    go_wp2_with fail
    have hyz : x ≤ 256 := by have := HOK.out; unfold NewOk at this; omega
    go_loopw [10] (fun v wr => ∃ (k : Nat) (ks ks' : List (Int × Rq)), v = .int .i64 k ∧ k ≤ len1 ∧ k ≤ 100 ∧ Hid (Both wr b M x y z ks b' (b' + 1) 1 1 1 ks') ∧ Mod (fun _ => False) w0 wr) (fun v _ => 100 - (intOf v).toNat)
    case atStart => exact ⟨0, [], [], rfl, Nat.zero_le _, Nat.zero_le _, TW, M3.out⟩
    case round =>
      obtain ⟨k, ks, ks', rfl, hk, hk100, hB, hm⟩ := hrel
      by_cases hlt : k < len1 ∧ k < 100
      · obtain ⟨hlt1, hlt2⟩ := hlt
        obtain ⟨t, ht⟩ : ∃ t, l[k]? = some t := ⟨_, List.getElem?_eq_getElem (by rw [HL.out.1]; exact hlt1)⟩
        obtain ⟨td, tp, tk, tt⟩ := t
        obtain ⟨hki, X, rfl, c0, c1, c2, c3⟩ := (HL.out.new hm).2.2 k _ ht
        dsimp only at hki c0 c1 c2 c3
        have HKI := Lib.hid hki
        have HT := Lib.hid ht
        have hlt1' : (k : Int) < len1 := by omega
        have hlt2' : (k : Int) < 100 := by omega
        have HM := Lib.hid hm
        clear ht hki hm
        go_wp2_with fail
        refine (flStep ⟨td, tp, tk, tt⟩ b M x y z ks b' (b' + 1) 1 1 1 ks' wr hB.out HKI.out).mono ?_; rintro e w4 ⟨⟨R, rfl, hR⟩, b4, m4⟩
        have B4 := Lib.hid b4
        have M4 := Lib.hid (HM.out.new m4 (by intro i hi; have := HN.out; rcases hi with rfl | rfl <;> omega))
        clear hR b4 m4 c0 c1 c2 c3 HM
        obtain ⟨ks4, hks4⟩ : ∃ l, l = stepK x y z ks ⟨td, tp, tk, tt⟩ := ⟨_, rfl⟩
        obtain ⟨ks4', hks4'⟩ : ∃ l, l = stepK 1 1 1 ks' ⟨td, tp, tk, tt⟩ := ⟨_, rfl⟩
        rw [← hks4, ← hks4'] at B4
        have LATE : Hid (td = 3 → mom tt → ∀ q ∈ ks4, tt - q.2.t < z) := by
          intro hd hmo q hq
          rw [hks4] at hq
          unfold stepK at hq
          simp only at hq
          rw [if_neg (by omega), if_neg (by omega), if_neg (by omega), if_pos hmo, List.mem_filter] at hq
          have := hq.2
          simp at this
          omega
        have n4 := B4.out.len
        clear hks4 hks4' hB
        go_wp2_with fail
        refine (flAll b M x y z ks4 w4 B4.out.two.t (by omega) B4.out.ok.i64).mono ?_; rintro e w5 ⟨v5, rfl, o5, m5⟩
        have B5 := Lib.hid (B4.out.new m5)
        have M5 := Lib.hid (M4.out.trans m5)
        obtain ⟨a5, cap5, rfl, _, e5, _⟩ := o5.els
        have E5 := Lib.hid e5
        clear o5 m5 e5 B4 M4
        have hmm := @run_makeMap Try.prog
        go_wp2_with fail
        clear hmm
        have ma := (Mod.refl (fun _ => False) w5).alloc (.map #[] 0)
        have IM := Lib.hid (IMap.made Try.prog 3 w5)
        obtain ⟨w6, hw6⟩ : ∃ w6, w6 = w5.alloc (.map #[] 0) := ⟨_, rfl⟩
        obtain ⟨G, hG⟩ : ∃ G, G = w5.heap.size := ⟨_, rfl⟩
        rw [← hw6] at ma
        rw [← hw6, ← hG] at IM
        rw [← hw6, ← hG]
        have MA := Lib.hid ma
        have HG := Lib.hid hG
        have CN0 : Hid (∀ p, cnt [] p = (many (ks4.take 0) p : Nat)) := fun p => rfl
        clear ma hw6 hG
        go_loopw [13] (fun v ws => ∃ (n : Nat) (cs : List (Int × Int)), v = .int .i64 n ∧ n ≤ ks4.length ∧ cs.length ≤ n ∧ Hid (∀ p, cnt cs p = (many (ks4.take n) p : Nat)) ∧ Hid (IMap Try.prog 3 ws G (cV cs)) ∧ Mod (fun _ => False) w5 ws) (fun v _ => ks4.length - (intOf v).toNat)
        case atStart => exact ⟨0, [], rfl, Nat.zero_le _, Nat.le_refl _, CN0, IM, MA.out⟩
        case round =>
          obtain ⟨n, cs, rfl, hn, hcs, hcn, him, hmz⟩ := hrel
          obtain ⟨wz, hwz⟩ : ∃ wz : World, wz = wr := ⟨_, rfl⟩
          rw [← hwz] at hmz him ⊢
          clear hwz
          by_cases hlz : (n : Int) < ks4.length
          · obtain ⟨⟨x', r⟩, hkr⟩ : ∃ q, ks4[n]? = some q := ⟨_, List.getElem?_eq_getElem (by omega)⟩
            obtain ⟨Y, rfl, p0, p1, p2⟩ := rqEl (E5.out.new hmz) (Nat.le_refl _) hkr
            have hmem := List.mem_of_getElem? hkr
            have hI := B5.out.ok.pr hmem
            obtain ⟨c, hc⟩ : ∃ c : Nat, c = many (ks4.take n) r.p := ⟨_, rfl⟩
            have hl : (Instr.lookup 46 (.map (some G)) (.int .i64 r.p) false).run Try.prog wz = .ok (.int .i64 (c : Int)) wz := by
              have h1 := him.out.look Try.underlying3 Try.underlying46 (zeroInt wz) hI
              have h2 := hcn.out r.p
              rw [lk_mpV] at h1
              rw [h1, hc, ← h2]
              unfold cnt
              cases lkL cs r.p <;> rfl
            obtain ⟨w8, hrun, him8, hm8, hz8⟩ := him.out.put Try.underlying3 Try.underlying46 (by rw [len_mpV]; unfold maxLen; omega) hI (.int .i64 ((c : Int) + 1))
            have him8' : IMap Try.prog 3 w8 G (cV (putL cs r.p ((c : Int) + 1))) := by
              have h := him8
              rw [show (Value.int .i64 ((c : Int) + 1)) = (fun (_ : Int) (n : Int) => Value.int .i64 n) r.p ((c : Int) + 1) from rfl, put_mpV] at h
              exact h
            have hm58 := hmz.new hm8 (by intro i hi; have := HG.out; omega)
            have hl2 : ∀ nn, (Instr.lookup 46 (.map (some G)) (.int .i64 r.p) false).run Try.prog (w8.drewN nn) = .ok (.int .i64 ((c : Int) + 1)) (w8.drewN nn) := by
              intro nn
              have h1 := (him8'.drewN nn).look Try.underlying3 Try.underlying46 (zeroInt _) hI
              rw [lk_mpV] at h1
              have h2 := cnt_put cs r.p ((c : Int) + 1) r.p
              rw [if_pos rfl] at h2
              rw [h1]
              unfold cnt at h2
              cases h3 : lkL (putL cs r.p ((c : Int) + 1)) r.p with
              | none => rw [h3] at h2; simp at h2; omega
              | some v => rw [h3] at h2; simp at h2; rw [h2]; rfl
            have CN8 : Hid (∀ p, cnt (putL cs r.p ((c : Int) + 1)) p = (many (ks4.take (n + 1)) p : Nat)) := by
              intro p
              rw [cnt_put, many_take ks4 n x' r hkr, hcn.out]
              by_cases e : p = r.p
              · subst e; rw [if_pos rfl, if_pos rfl, hc]; simp
              · rw [if_neg e, if_neg (fun h => e h.symm)]; simp
            have hcle : (c : Int) + 1 ≤ y := by
              have h1 := B5.out.ok.many r.p
              have h2 := many_take_le ks4 (n + 1) r.p
              rw [many_take ks4 n x' r hkr, if_pos rfl, ← hc] at h2
              omega
            have hc256 : (c : Int) ≤ 256 := by have h1 := many_le (ks4.take n) r.p; have h2 : (ks4.take n).length ≤ n := List.length_take_le _ _; omega
            have hLT : td = 3 → mom tt → tt - r.t < z := fun h1 h2 => LATE.out h1 h2 _ hmem
            have hrt := (B5.out.ok.tm _ hmem)
            have HRT : Hid (0 ≤ r.t ∧ r.t ≤ 1099511627776) := hrt
            have HLT := Lib.hid hLT
            have hlzn : n < ks4.length := by omega
            have hcs8 : (putL cs r.p ((c : Int) + 1)).length ≤ n + 1 := by have := length_put_le cs r.p ((c : Int) + 1); omega
            obtain ⟨_, hY, q0, q1, q2⟩ := rqEl (E5.out.new hm58) (Nat.le_refl _) hkr
            cases hY
            have M8 := Lib.hid (M5.out.trans hm58)
            have XC := Lib.hid (X0.out.mod M8.out (fun h => h))
            have f0 := XC.out.cell 0; have f1 := XC.out.cell 1; have f2 := XC.out.cell 2
            obtain ⟨_, Z, hZ, g0, g1, g2, g3⟩ := (HL.out.new M8.out).2.2 k _ HT.out
            dsimp only at g0 g1 g2 g3
            cases hZ
            have HM58 := Lib.hid hm58
            have HIM8 := Lib.hid him8'
            have HKR := Lib.hid hkr
            have HCS8 := Lib.hid hcs8
            clear hkr hmem hI hc him8 hm8 hz8 him8' hm58 hLT hrt hcs8 him hcn hmz
            by_cases hn0 : n = 0
            · have hnz : decide (0 < n) = false := by simp; omega
              clear hn0
              go_wp2_with fail
              refine wp_region2 [] [] (by kernel_rfl) (by kernel_rfl) ?_
              repeat (first | (refine reg_anyT (by rfl) (fun K hK => ?_); go_simp; refine hK _ _ ?_; clear hK K) | (refine reg_read (by rfl) (fun K hK => ?_); go_simp; refine hK _ _ ?_; clear hK K))
              refine reg_nil (fun nd => ?_)
              have L0 := Lib.hid hl2
              have HM9 := Lib.hid (HM58.out.drewN nd)
              have HIM9 := Lib.hid (HIM8.out.drewN nd)
              obtain ⟨w9, hw9⟩ : ∃ w9, w9 = w8.drewN nd := ⟨_, rfl⟩
              have h0 : w9.cell? ⟨BX, 0, none⟩ = some (.int .i64 x) := by rw [hw9]; exact f0
              have h1 : w9.cell? ⟨BX, 1, none⟩ = some (.int .i64 y) := by rw [hw9]; exact f1
              have h2 : w9.cell? ⟨BX, 2, none⟩ = some (.int .i64 z) := by rw [hw9]; exact f2
              have s0 : w9.cell? (X.add (k * 4)) = some (.int .i64 td) := by rw [hw9]; exact g0
              have s1 : w9.cell? ⟨(X.add (k * 4)).block, (X.add (k * 4)).off + 1, none⟩ = some (.int .i64 tp) := by rw [hw9]; exact g1
              have s2 : w9.cell? ⟨(X.add (k * 4)).block, (X.add (k * 4)).off + 2, none⟩ = some (.int .i64 tk) := by rw [hw9]; exact g2
              have s3 : w9.cell? ⟨(X.add (k * 4)).block, (X.add (k * 4)).off + 3, none⟩ = some (.int .i64 tt) := by rw [hw9]; exact g3
              have y0 : w9.cell? (Y.add (n * 3)) = some (.int .i64 r.p) := by rw [hw9]; exact q0
              have y1 : w9.cell? ⟨(Y.add (n * 3)).block, (Y.add (n * 3)).off + 1, none⟩ = some (.int .i64 x') := by rw [hw9]; exact q1
              have y2 : w9.cell? ⟨(Y.add (n * 3)).block, (Y.add (n * 3)).off + 2, none⟩ = some (.int .i64 r.t) := by rw [hw9]; exact q2
              rw [← hw9] at HM9 HIM9 ⊢
              clear hw9 hl2 f0 f1 f2 g0 g1 g2 g3 q0 q1 q2 hl hrun
              go_wp2_with fail
              by_cases hd3 : td = 3
              · have hd3' : (td == 3) = true := by simpa using hd3
                have HD3 := Lib.hid hd3
                clear hd3
                by_cases ht0 : 0 ≤ tt
                · by_cases ht1 : tt ≤ 1099511627776
                  · obtain ⟨dd, hdd⟩ : ∃ dd, dd = tt - r.t := ⟨_, rfl⟩
                    have hwd : IntKind.i64.wrap (tt - r.t) = dd := by have := HRT.out; rw [hdd]; unfold IntKind.wrap; simp [IntKind.bits, IntKind.signed]; omega
                    have hlt3 : ¬ z ≤ dd := by have := HLT.out HD3.out ⟨ht0, ht1⟩; omega
                    clear hdd
                    go_wp2_with fail
                    refine wp_region2 [] [] (by kernel_rfl) (by kernel_rfl) ?_
                    repeat (first | (refine reg_anyT (by rfl) (fun K hK => ?_); go_simp; refine hK _ _ ?_; clear hK K) | (refine reg_read (by rfl) (fun K hK => ?_); go_simp; refine hK _ _ ?_; clear hK K))
                    refine reg_nil (fun nd => ?_)
                    go_wp2_with fail
                    exact ⟨⟨n + 1, _, by go_num, by omega, HCS8.out, CN8, HIM9.out.drewN _, HM9.out.drewN _⟩, by simp [intOf]; omega⟩
                  · have ht1' : decide (tt ≤ 1099511627776) = false := by simpa using ht1
                    clear ht1
                    go_wp2_with fail
                    refine wp_region2 [] [] (by kernel_rfl) (by kernel_rfl) ?_
                    repeat (first | (refine reg_anyT (by rfl) (fun K hK => ?_); go_simp; refine hK _ _ ?_; clear hK K) | (refine reg_read (by rfl) (fun K hK => ?_); go_simp; refine hK _ _ ?_; clear hK K))
                    refine reg_nil (fun nd => ?_)
                    go_wp2_with fail
                    exact ⟨⟨n + 1, _, by go_num, by omega, HCS8.out, CN8, HIM9.out.drewN _, HM9.out.drewN _⟩, by simp [intOf]; omega⟩
                · have ht0' : decide (0 ≤ tt) = false := by simpa using ht0
                  clear ht0
                  go_wp2_with fail
                  refine wp_region2 [] [] (by kernel_rfl) (by kernel_rfl) ?_
                  repeat (first | (refine reg_anyT (by rfl) (fun K hK => ?_); go_simp; refine hK _ _ ?_; clear hK K) | (refine reg_read (by rfl) (fun K hK => ?_); go_simp; refine hK _ _ ?_; clear hK K))
                  refine reg_nil (fun nd => ?_)
                  go_wp2_with fail
                  exact ⟨⟨n + 1, _, by go_num, by omega, HCS8.out, CN8, HIM9.out.drewN _, HM9.out.drewN _⟩, by simp [intOf]; omega⟩
              · have hd3' : (td == 3) = false := by simpa using hd3
                clear hd3
                go_wp2_with fail
                refine wp_region2 [] [] (by kernel_rfl) (by kernel_rfl) ?_
                repeat (first | (refine reg_anyT (by rfl) (fun K hK => ?_); go_simp; refine hK _ _ ?_; clear hK K) | (refine reg_read (by rfl) (fun K hK => ?_); go_simp; refine hK _ _ ?_; clear hK K))
                refine reg_nil (fun nd => ?_)
                go_wp2_with fail
                exact ⟨⟨n + 1, _, by go_num, by omega, HCS8.out, CN8, HIM9.out.drewN _, HM9.out.drewN _⟩, by simp [intOf]; omega⟩
            · obtain ⟨n0, hn0'⟩ : ∃ n0, n0 + 1 = n := ⟨n - 1, by omega⟩
              have hnz : decide (0 < n) = true := by simp; omega
              have hwn : IntKind.i64.wrap ((n : Int) - 1) = (n0 : Int) := by unfold IntKind.wrap; simp [IntKind.bits, IntKind.signed]; omega
              have hn0l : (n0 : Int) < ks4.length := by omega
              have hn0m : n0 < ks4.length := by omega
              obtain ⟨⟨x0, r0⟩, hk0⟩ : ∃ q, ks4[n0]? = some q := ⟨_, List.getElem?_eq_getElem (by omega)⟩
              obtain ⟨_, hY, u0, u1, u2⟩ := rqEl (E5.out.new HM58.out) (Nat.le_refl _) hk0
              cases hY
              have hris : ¬ x' ≤ x0 := by
                have h := HKR.out
                rw [← hn0'] at h
                have := rising_get B5.out.ok.rising hk0 h
                simp only at this
                omega
              clear hn0 hn0' hk0
              go_wp2_with fail
              refine wp_region2 [] [] (by kernel_rfl) (by kernel_rfl) ?_
              repeat (first | (refine reg_anyT (by rfl) (fun K hK => ?_); go_simp; refine hK _ _ ?_; clear hK K) | (refine reg_read (by rfl) (fun K hK => ?_); go_simp; refine hK _ _ ?_; clear hK K))
              refine reg_nil (fun nd => ?_)
              have L0 := Lib.hid hl2
              have HM9 := Lib.hid (HM58.out.drewN nd)
              have HIM9 := Lib.hid (HIM8.out.drewN nd)
              obtain ⟨w9, hw9⟩ : ∃ w9, w9 = w8.drewN nd := ⟨_, rfl⟩
              have h0 : w9.cell? ⟨BX, 0, none⟩ = some (.int .i64 x) := by rw [hw9]; exact f0
              have h1 : w9.cell? ⟨BX, 1, none⟩ = some (.int .i64 y) := by rw [hw9]; exact f1
              have h2 : w9.cell? ⟨BX, 2, none⟩ = some (.int .i64 z) := by rw [hw9]; exact f2
              have s0 : w9.cell? (X.add (k * 4)) = some (.int .i64 td) := by rw [hw9]; exact g0
              have s1 : w9.cell? ⟨(X.add (k * 4)).block, (X.add (k * 4)).off + 1, none⟩ = some (.int .i64 tp) := by rw [hw9]; exact g1
              have s2 : w9.cell? ⟨(X.add (k * 4)).block, (X.add (k * 4)).off + 2, none⟩ = some (.int .i64 tk) := by rw [hw9]; exact g2
              have s3 : w9.cell? ⟨(X.add (k * 4)).block, (X.add (k * 4)).off + 3, none⟩ = some (.int .i64 tt) := by rw [hw9]; exact g3
              have y0 : w9.cell? (Y.add (n * 3)) = some (.int .i64 r.p) := by rw [hw9]; exact q0
              have y1 : w9.cell? ⟨(Y.add (n * 3)).block, (Y.add (n * 3)).off + 1, none⟩ = some (.int .i64 x') := by rw [hw9]; exact q1
              have y2 : w9.cell? ⟨(Y.add (n * 3)).block, (Y.add (n * 3)).off + 2, none⟩ = some (.int .i64 r.t) := by rw [hw9]; exact q2
              rw [← hw9] at HM9 HIM9 ⊢
              clear hw9 hl2 f0 f1 f2 g0 g1 g2 g3 q0 q1 q2 hl hrun
              go_wp2_with fail
              by_cases hd3 : td = 3
              · have hd3' : (td == 3) = true := by simpa using hd3
                have HD3 := Lib.hid hd3
                clear hd3
                by_cases ht0 : 0 ≤ tt
                · by_cases ht1 : tt ≤ 1099511627776
                  · obtain ⟨dd, hdd⟩ : ∃ dd, dd = tt - r.t := ⟨_, rfl⟩
                    have hwd : IntKind.i64.wrap (tt - r.t) = dd := by have := HRT.out; rw [hdd]; unfold IntKind.wrap; simp [IntKind.bits, IntKind.signed]; omega
                    have hlt3 : ¬ z ≤ dd := by have := HLT.out HD3.out ⟨ht0, ht1⟩; omega
                    clear hdd
                    go_wp2_with fail
                    refine wp_region2 [] [] (by kernel_rfl) (by kernel_rfl) ?_
                    repeat (first | (refine reg_anyT (by rfl) (fun K hK => ?_); go_simp; refine hK _ _ ?_; clear hK K) | (refine reg_read (by rfl) (fun K hK => ?_); go_simp; refine hK _ _ ?_; clear hK K))
                    refine reg_nil (fun nd => ?_)
                    go_wp2_with fail
                    exact ⟨⟨n + 1, _, by go_num, by omega, HCS8.out, CN8, HIM9.out.drewN _, HM9.out.drewN _⟩, by simp [intOf]; omega⟩
                  · have ht1' : decide (tt ≤ 1099511627776) = false := by simpa using ht1
                    clear ht1
                    go_wp2_with fail
                    refine wp_region2 [] [] (by kernel_rfl) (by kernel_rfl) ?_
                    repeat (first | (refine reg_anyT (by rfl) (fun K hK => ?_); go_simp; refine hK _ _ ?_; clear hK K) | (refine reg_read (by rfl) (fun K hK => ?_); go_simp; refine hK _ _ ?_; clear hK K))
                    refine reg_nil (fun nd => ?_)
                    go_wp2_with fail
                    exact ⟨⟨n + 1, _, by go_num, by omega, HCS8.out, CN8, HIM9.out.drewN _, HM9.out.drewN _⟩, by simp [intOf]; omega⟩
                · have ht0' : decide (0 ≤ tt) = false := by simpa using ht0
                  clear ht0
                  go_wp2_with fail
                  refine wp_region2 [] [] (by kernel_rfl) (by kernel_rfl) ?_
                  repeat (first | (refine reg_anyT (by rfl) (fun K hK => ?_); go_simp; refine hK _ _ ?_; clear hK K) | (refine reg_read (by rfl) (fun K hK => ?_); go_simp; refine hK _ _ ?_; clear hK K))
                  refine reg_nil (fun nd => ?_)
                  go_wp2_with fail
                  exact ⟨⟨n + 1, _, by go_num, by omega, HCS8.out, CN8, HIM9.out.drewN _, HM9.out.drewN _⟩, by simp [intOf]; omega⟩
              · have hd3' : (td == 3) = false := by simpa using hd3
                clear hd3
                go_wp2_with fail
                refine wp_region2 [] [] (by kernel_rfl) (by kernel_rfl) ?_
                repeat (first | (refine reg_anyT (by rfl) (fun K hK => ?_); go_simp; refine hK _ _ ?_; clear hK K) | (refine reg_read (by rfl) (fun K hK => ?_); go_simp; refine hK _ _ ?_; clear hK K))
                refine reg_nil (fun nd => ?_)
                go_wp2_with fail
                exact ⟨⟨n + 1, _, by go_num, by omega, HCS8.out, CN8, HIM9.out.drewN _, HM9.out.drewN _⟩, by simp [intOf]; omega⟩
          · have B9 := Lib.hid (B5.out.new hmz)
            have M9 := Lib.hid (M5.out.trans hmz)
            have f0 := (X0.out.mod M9.out (fun h => h)).cell 0
            have hlx : ¬ x < (ks4.length : Int) := by have := B5.out.ok.len; omega
            clear hmz
            go_wp2_with fail
            exact ⟨⟨k + 1, ks4, ks4', by go_num, by omega, by omega, B9, M9.out⟩, by simp [intOf]; omega⟩
      · have hend : (k : Int) < len1 → ¬ (k : Int) < 100 := by omega
        have HM := Lib.hid hm
        clear hm hlt
        by_cases h6 : (k : Int) < len1
        · have h7 : ¬ (k : Int) < 100 := hend h6
          clear hend
          go_wp2_with fail
          go_ret
          exact ⟨rfl, MX.out.trans HM.out⟩
        · clear hend
          go_wp2_with fail
          go_ret
          exact ⟨rfl, MX.out.trans HM.out⟩
  · have HOK := Lib.hid hok
    clear hok
    go_enter Try.func4, Try.ntmps4
    go_wp2_with fail
    rw [← HW0.out, ← HBX.out]
    refine (awake16 w0).mono ?_; rintro e w1 ⟨rfl, m1⟩
    have X1 := Lib.hid (X0.out.mod m1 (fun h => h))
    have M1 := Lib.hid (MX.out.trans m1)
    have c0 := X1.out.cell 0; have c1 := X1.out.cell 1; have c2 := X1.out.cell 2
    clear m1
    go_wp2_with fail
    refine (flNewBad x y z _ HOK.out).mono ?_; rintro e w' ⟨rfl, rfl⟩
    go_wp2_with fail
    go_ret
    exact ⟨rfl, M1.out⟩
end Go.Proofs.Ytfdmamaldgpbaaa
