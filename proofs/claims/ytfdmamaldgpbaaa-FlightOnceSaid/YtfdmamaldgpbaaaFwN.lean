/- The walk of the statement FlightOnce: the call returns true and turns nothing that was there; no condition. -/
import Derived.Test.YtfdmamaldgpbaaaFwS
namespace Go.Proofs.Ytfdmamaldgpbaaa
open Go Go.RowKit

abbrev allT : Int × Rq → Bool := fun _ => true
theorem once_look {ks : List (Int × Rq)} (hr : Rising ks) (φ : Int × Rq → Bool) {n : Nat} {x : Int} {r : Rq} (h : (ks.filter φ)[n]? = some (x, r)) : lkL (leftL allT ((ks.filter φ).take n) ks) x = some r := by
  have hrf : Rising (ks.filter φ) := List.Pairwise.filter _ hr
  have hmem := List.mem_of_getElem? h
  rw [leftL_filter]
  refine lk_of_mem (List.Pairwise.filter _ hr) (List.mem_filter.2 ⟨(List.mem_filter.1 hmem).1, ?_⟩)
  rw [List.all_eq_true]
  intro q hq
  obtain ⟨j, hj⟩ := List.getElem?_of_mem hq
  rw [List.getElem?_take] at hj
  split at hj
  · rename_i hjn
    obtain ⟨h1, e1⟩ := List.getElem?_eq_some_iff.1 hj
    obtain ⟨h2, e2⟩ := List.getElem?_eq_some_iff.1 h
    have h3 := List.pairwise_iff_getElem.1 hrf j n h1 h2 hjn
    rw [e1, e2] at h3
    simp only at h3
    simp; omega
  · cases hj
theorem once_left {ks : List (Int × Rq)} (hr : Rising ks) (φ : Int × Rq → Bool) : leftL allT (ks.filter φ) ks = ks.filter fun q => !φ q := by
  rw [leftL_filter]
  refine List.filter_congr fun q hq => ?_
  cases h : φ q with
  | true =>
    simp only [Bool.not_true]
    rw [List.all_eq_false]
    exact ⟨q, List.mem_filter.2 ⟨hq, h⟩, by simp⟩
  | false =>
    simp only [Bool.not_false]
    rw [List.all_eq_true]
    intro x hx
    have hx2 := List.mem_filter.1 hx
    by_cases e : q.1 = x.1
    · have h1 := lk_of_mem hr (k := q.1) (v := q.2) hq
      have h2 := lk_of_mem hr (k := x.1) (v := x.2) hx2.1
      rw [← e, h1] at h2
      have : q = x := Prod.ext e (Option.some.inj h2)
      rw [← this, h] at hx2
      cases hx2.2
    · simp [e]
theorem filter_one {ks : List (Int × Rq)} (hr : Rising ks) {k : Int} {r : Rq} (h : lkL ks k = some r) : ks.filter (fun q => q.1 == k) = [(k, r)] := by
  have hm := lk_some_mem h
  have key : ∀ q ∈ ks.filter (fun q => q.1 == k), q = (k, r) := by
    intro q hq
    obtain ⟨h1, h2⟩ := List.mem_filter.1 hq
    have h3 := lk_of_mem hr (k := q.1) (v := q.2) h1
    have e : q.1 = k := by simpa using h2
    rw [e, h] at h3
    exact Prod.ext e (Option.some.inj h3).symm
  have hrf : Rising (ks.filter (fun q => q.1 == k)) := List.Pairwise.filter _ hr
  have hin : (k, r) ∈ ks.filter (fun q => q.1 == k) := List.mem_filter.2 ⟨hm, by simp⟩
  generalize ks.filter (fun q => q.1 == k) = l at *
  match l, key, hrf, hin with
  | [], _, _, h => simp at h
  | [q], key, _, _ => rw [key q (by simp)]
  | q :: q' :: t, key, hrf, _ =>
    have h1 := key q (by simp)
    have h2 := key q' (by simp)
    have h3 := (List.pairwise_cons.1 hrf).1 q' (by simp)
    rw [h1, h2] at h3
    simp only at h3
    omega


set_option maxRecDepth 100000 in
set_option maxHeartbeats 8000000 in
theorem flightOnce_walk (z0 : X3) (a1 : Option Addr) (len1 cap1 : Nat) (l : List St) (w : World) (_ : True) (hl : IsSteps w a1 len1 l) :
    Calls Try.prog 5 #[x3V z0, .slice a1 len1 cap1] w fun e w' => e = .returned (.bool true) ∧ Below w.heap.size w w' := by
  refine Calls.mono (R := fun e w' => e = .returned (.bool true) ∧ Mod (fun _ => False) w w') ?_ (fun e w' ⟨h1, h2⟩ => ⟨h1, h2.bel⟩)
  obtain ⟨x, y, z⟩ := z0
  unfold x3V
  dsimp only
  have HL0 := Lib.hid hl
  have hll : (len1 : Int) ≤ 9223372036854775807 := hl.2.1
  clear hl
  have mx := (Mod.refl (fun _ => False) w).alloc (.cells #[.int .i64 x, .int .i64 y, .int .i64 z] 22)
  have X0 := Lib.hid (Blk.new w #[.int .i64 x, .int .i64 y, .int .i64 z] 22)
  have MX := Lib.hid mx
  obtain ⟨w0, hw0⟩ : ∃ w0, w0 = w.alloc (.cells #[.int .i64 x, .int .i64 y, .int .i64 z] 22) := ⟨_, rfl⟩
  obtain ⟨BX, hBX⟩ : ∃ BX, BX = w.heap.size := ⟨_, rfl⟩
  rw [← hw0, ← hBX] at X0
  rw [← hw0] at MX
  have HW0 := Lib.hid hw0
  have HBX := Lib.hid hBX
  have HL := Lib.hid (HL0.out.new MX.out)
  have HXL := Lib.hid X0.out.lt
  clear mx hw0 hBX
  by_cases hok : NewOk x y z
  · have HOK := Lib.hid hok
    clear hok
    have hmm := @run_makeMap Try.prog
    go_enter Try.func5, Try.ntmps5
    go_wp2_with fail
    rw [← HW0.out, ← HBX.out]
    refine (awake16 w0).mono ?_; rintro e w1 ⟨rfl, m1⟩
    have X1 := Lib.hid (X0.out.mod m1 (fun h => h))
    have M1 := Lib.hid m1
    have c0 := X1.out.cell 0; have c1 := X1.out.cell 1; have c2 := X1.out.cell 2
    clear m1
    go_wp2_with fail
    refine (flNew x y z _ HOK.out).mono ?_; rintro e w2 ⟨rfl, t2, m2, s2⟩
    have T2 := Lib.hid t2
    have M2 := Lib.hid m2
    clear t2 m2 c0 c1 c2
    have S2 := Lib.hid s2
    clear s2
    go_wp2_with fail
    clear hmm
    have s2 := S2.out
    obtain ⟨b, hb⟩ : ∃ b, b = w1.heap.size + 1 := ⟨_, rfl⟩
    obtain ⟨M, hM⟩ : ∃ b, b = w1.heap.size := ⟨_, rfl⟩
    obtain ⟨G, hG⟩ : ∃ b, b = w2.heap.size := ⟨_, rfl⟩
    have hz : w0.heap.size ≤ w1.heap.size := M1.out.size
    have h0 := HOK.out
    unfold NewOk at h0
    have IM := Lib.hid (IMap.made Try.prog 3 w2)
    have ma := (Mod.refl (fun _ => False) w2).alloc (.map #[] 0)
    have M3 := Lib.hid ((M1.out.trans M2.out).trans ma)
    have T3 := Lib.hid (T2.out.new ma)
    have OK0 : Hid (Okk x y []) := Okk.nil _ _ (by omega) (by omega)
    have HG : Hid (w0.heap.size ≤ b ∧ w0.heap.size ≤ M ∧ w0.heap.size ≤ G) := by show _ ∧ _ ∧ _; omega
    have HGB : Hid (b < G ∧ M < G) := by show _ ∧ _; omega
    have HX : Hid (x ≤ 256) := by show _ ≤ _; omega
    obtain ⟨w3, hw3⟩ : ∃ w3, w3 = w2.alloc (.map #[] 0) := ⟨_, rfl⟩
    rw [← hw3] at M3 T3 IM
    rw [← hb, ← hM] at T3
    rw [← hG] at IM
    rw [← hb, ← hG, ← hw3]
    clear hb hM hG hz T2 M2 M1 s2 h0 hw3 ma
    go_loopw [9] (fun v wr => ∃ (k : Nat) (ks : List (Int × Rq)), v = .int .i64 k ∧ k ≤ len1 ∧ k ≤ 100 ∧ Hid (TB wr b M x y z ks) ∧ Hid (Okk x y ks) ∧ Hid (IMap Try.prog 3 wr G (mpV rqv ks)) ∧ Mod (fun _ => False) w0 wr) (fun v _ => 100 - (intOf v).toNat)
    case atStart => exact ⟨0, [], rfl, Nat.zero_le _, Nat.zero_le _, T3, OK0, IM, M3.out⟩
    case round =>
      obtain ⟨k, ks, rfl, hk, hk100, hT, hO, hI, hm⟩ := hrel
      by_cases hlt : k < len1 ∧ k < 100
      · obtain ⟨hlt1, hlt2⟩ := hlt
        obtain ⟨t, ht⟩ : ∃ t, l[k]? = some t := ⟨_, List.getElem?_eq_getElem (by rw [HL.out.1]; exact hlt1)⟩
        obtain ⟨td, tp, tk, tt⟩ := t
        obtain ⟨hki, X, rfl, c0, c1, c2, c3⟩ := (HL.out.new hm).2.2 k _ ht
        dsimp only at hki c0 c1 c2 c3
        have HKI := Lib.hid hki
        have HT := Lib.hid ht
        have hlt1' : (k : Int) < len1 := by omega
        have hlt2' : (k : Int) < 100 := by omega
        have HM := Lib.hid hm
        have N0 : Hid (ks.length ≤ 256) := by have := hO.out.len; have := HX.out; show _ ≤ _; omega
        have hMl : M < wr.heap.size ∧ b < wr.heap.size ∧ G < wr.heap.size := ⟨hT.out.lt.2, hT.out.lt.1, hI.out.lt⟩
        have hMl0 := hMl
        clear ht hki hm hMl0
        obtain ⟨wv, hwv⟩ : ∃ wv : World, wv = wr := ⟨_, rfl⟩
        rw [← hwv] at hT hI HM hMl c0 c1 c2 c3 ⊢
        clear hwv
        by_cases d0 : td = 0
        · have d0' : (td == 0) = true := by simpa using d0
          clear d0
          go_wp2_with fail
          refine wp_region2 [] [] (by kernel_rfl) (by kernel_rfl) ?_
          repeat (first | (refine reg_anyT (by rfl) (fun K hK => ?_); go_simp; refine hK _ _ ?_; clear hK K) | (refine reg_read (by rfl) (fun K hK => ?_); go_simp; refine hK _ _ ?_; clear hK K))
          refine reg_eff (by rfl) (fun rn K hK => ?_); go_simp
          refine (flAsk tp tk tt b M x y z ks _ HKI.out (hT.out.drewN rn) (by have := N0.out; omega)).mono ?_; rintro e w4 ⟨rfl, t4, m4⟩
          refine hK _ _ ?_; clear hK K
          repeat (first | (refine reg_anyT (by rfl) (fun K hK => ?_); go_simp; refine hK _ _ ?_; clear hK K) | (refine reg_read (by rfl) (fun K hK => ?_); go_simp; refine hK _ _ ?_; clear hK K))
          refine reg_nil (fun nd => ?_)
          have TQ0 := Lib.hid (t4.drewN nd)
          have m4' := m4.undrew.drewN nd
          have HM4 := Lib.hid (HM.out.new m4' (by intro i hi; have := HG.out; omega))
          have HI4 := Lib.hid (hI.out.mod m4' (by have := HGB.out; omega))
          obtain ⟨_, X', hX', g0, g1, g2, g3⟩ := (HL.out.new HM4.out).2.2 k _ HT.out
          cases hX'
          dsimp only at g0 g1 g2 g3
          have OKA := Lib.hid (hO.out.ask tp tk tt)
          have HKE := Lib.hid (show askK x y ks tp tk tt = if askE x y ks tp tk tt = 0 then putL ks tk ⟨tp, tt⟩ else ks from rfl)
          obtain ⟨E, hE⟩ : ∃ E, E = askE x y ks tp tk tt := ⟨_, rfl⟩
          rw [← hE] at HKE ⊢
          generalize askK x y ks tp tk tt = ks4 at HKE OKA TQ0
          obtain ⟨w5, hw5⟩ : ∃ w5, w5 = w4.drewN nd := ⟨_, rfl⟩
          rw [← hw5] at TQ0 HM4 HI4 g0 g1 g2 g3 ⊢
          clear t4 m4 m4' hw5 hE c0 c1 c2 c3 hT hI HM
          by_cases he : E = 0
          · subst he
            have hk4 := HKE.out
            rw [if_pos rfl] at hk4
            subst hk4
            go_wp2_with fail
            refine wp_region2 [] [] (by kernel_rfl) (by kernel_rfl) ?_
            repeat (first | (refine reg_anyT (by rfl) (fun K hK => ?_); go_simp; refine hK _ _ ?_; clear hK K) | (refine reg_read (by rfl) (fun K hK => ?_); go_simp; refine hK _ _ ?_; clear hK K))
            refine reg_eff (by rfl) (fun rn K hK => ?_)
            obtain ⟨w6, hrun, him, hm6, hz6⟩ := (HI4.out.drewN rn).put Try.underlying3 Try.underlying47 (by rw [len_mpV]; have := N0.out; unfold maxLen; omega) HKI.out (rqv tk ⟨tp, tt⟩)
            rw [put_mpV] at him
            unfold rqv at hrun
            go_simp
            refine hK _ _ ?_; clear hK K
            repeat (first | (refine reg_anyT (by rfl) (fun K hK => ?_); go_simp; refine hK _ _ ?_; clear hK K) | (refine reg_read (by rfl) (fun K hK => ?_); go_simp; refine hK _ _ ?_; clear hK K))
            refine reg_nil (fun nd => ?_)
            have hm6' := hm6.undrew.drewN nd
            have IMQ := Lib.hid (him.drewN nd)
            have TQ := Lib.hid (TQ0.out.mod hm6' (by have := HGB.out; omega) (by have := HGB.out; omega))
            have MQ := Lib.hid (HM4.out.new hm6' (by intro i hi; have := HG.out; omega))
            have OK4 := OKA
            clear hrun him hm6 hz6 hm6' g0 g1 g2 g3 TQ0 HI4 OKA
            generalize w6.drewN nd = wq at *
            generalize putL ks tk ⟨tp, tt⟩ = ks4 at *
            go_wp2_with fail
            go_loopw [14] (fun v ws => v = .int .i64 0 ∧ ws = wq) (fun _ _ => 0)
            case atStart => exact ⟨rfl, rfl⟩
            case round =>
              obtain ⟨rfl, hwr⟩ := hrel
              rw [hwr]
              clear hwr
              go_wp2_with fail
              refine (flAll b M x y z ks4 wq TQ.out (by have := OK4.out.len; have := HX.out; omega) OK4.out.i64).mono ?_; rintro e w11 ⟨v11, rfl, o11, m11⟩
              obtain ⟨a11, cap11, rfl, _, _, _⟩ := o11.els
              have T11 := Lib.hid (TQ.out.new m11)
              have HI11 := Lib.hid (IMQ.out.mod m11 (fun h => h))
              have M11 := Lib.hid (MQ.out.trans m11)
              have hln := HI11.out.len (T := 47) Try.underlying47 3
              rw [len_mpV] at hln
              clear o11 m11
              go_wp2_with fail
              exact ⟨⟨k + 1, ks4, by go_num, by omega, by omega, T11, OK4, HI11, M11.out⟩, by simp [intOf]; omega⟩
          · have he' : (E == 0) = false := by simpa using he
            have hk4 := HKE.out
            rw [if_neg he] at hk4
            subst hk4
            have IMQ := HI4
            have TQ := TQ0
            have MQ := HM4
            have OK4 := OKA
            clear he g0 g1 g2 g3 TQ0 HI4 OKA HM4
            obtain ⟨wq, hwq⟩ : ∃ wq, wq = w5 := ⟨_, rfl⟩
            rw [← hwq] at IMQ TQ MQ ⊢
            clear hwq
            go_wp2_with fail
            go_loopw [14] (fun v ws => v = .int .i64 0 ∧ ws = wq) (fun _ _ => 0)
            case atStart => exact ⟨rfl, rfl⟩
            case round =>
              obtain ⟨rfl, hwr⟩ := hrel
              rw [hwr]
              clear hwr
              go_wp2_with fail
              refine (flAll b M x y z ks4 wq TQ.out (by have := OK4.out.len; have := HX.out; omega) OK4.out.i64).mono ?_; rintro e w11 ⟨v11, rfl, o11, m11⟩
              obtain ⟨a11, cap11, rfl, _, _, _⟩ := o11.els
              have T11 := Lib.hid (TQ.out.new m11)
              have HI11 := Lib.hid (IMQ.out.mod m11 (fun h => h))
              have M11 := Lib.hid (MQ.out.trans m11)
              have hln := HI11.out.len (T := 47) Try.underlying47 3
              rw [len_mpV] at hln
              clear o11 m11
              go_wp2_with fail
              exact ⟨⟨k + 1, ks4, by go_num, by omega, by omega, T11, OK4, HI11, M11.out⟩, by simp [intOf]; omega⟩
        · have d0' : (td == 0) = false := by simpa using d0
          by_cases d1 : td = 1
          · have d1' : (td == 1) = true := by simpa using d1
            clear d0 d1
            cases hlk : lkL ks tk with
            | none =>
              go_wp2_with fail
              refine (flDoneNo tk b M x y z ks wv HKI.out hT.out hlk).mono ?_; rintro e w4 ⟨rfl, m4⟩
              have ma := m4.alloc (.cells #[.int .i64 0, .int .i64 0, .int .i64 0] TRq)
              have TQ := Lib.hid (hT.out.new ma)
              have IMQ := Lib.hid (hI.out.mod ma (fun h => h))
              have MQ := Lib.hid (HM.out.trans ma)
              have OK4 := hO
              obtain ⟨ks4, hks4⟩ : ∃ l, l = ks := ⟨_, rfl⟩
              rw [← hks4] at TQ IMQ OK4
              obtain ⟨wq, hwq⟩ : ∃ wq, wq = w4.alloc (.cells #[.int .i64 0, .int .i64 0, .int .i64 0] TRq) := ⟨_, rfl⟩
              rw [← hwq] at TQ IMQ MQ
              have HWQ := Lib.hid hwq
              clear hks4 hwq ma m4 hT hI HM hlk c0 c1 c2 c3
              go_wp2_with fail
              rw [← HWQ.out]
              go_wp2_with fail
              go_loopw [14] (fun v ws => v = .int .i64 0 ∧ ws = wq) (fun _ _ => 0)
              case atStart => exact ⟨rfl, rfl⟩
              case round =>
                obtain ⟨rfl, hwr⟩ := hrel
                rw [hwr]
                clear hwr
                go_wp2_with fail
                refine (flAll b M x y z ks4 wq TQ.out (by have := OK4.out.len; have := HX.out; omega) OK4.out.i64).mono ?_; rintro e w11 ⟨v11, rfl, o11, m11⟩
                obtain ⟨a11, cap11, rfl, _, _, _⟩ := o11.els
                have T11 := Lib.hid (TQ.out.new m11)
                have HI11 := Lib.hid (IMQ.out.mod m11 (fun h => h))
                have M11 := Lib.hid (MQ.out.trans m11)
                have hln := HI11.out.len (T := 47) Try.underlying47 3
                rw [len_mpV] at hln
                clear o11 m11
                go_wp2_with fail
                exact ⟨⟨k + 1, ks4, by go_num, by omega, by omega, T11, OK4, HI11, M11.out⟩, by simp [intOf]; omega⟩
            | some r =>
              go_wp2_with fail
              refine (flDoneYes tk r b M x y z ks wv HKI.out hT.out hlk).mono ?_; rintro e w4 ⟨rfl, t4, m4⟩
              have T4 := Lib.hid t4
              have HM4 := Lib.hid (HM.out.new m4 (by intro i hi; have := HG.out; omega))
              have HI4 := Lib.hid (hI.out.mod m4 (by have := HGB.out; omega))
              have hwl := m4.size
              have FO := Lib.hid (filter_one hO.out.rising hlk)
              clear t4 m4 hT hI HM c0 c1 c2 c3
              unfold rqv
              obtain ⟨φ, hφ⟩ : ∃ φ : Int × Rq → Bool, φ = fun q => q.1 == tk := ⟨_, rfl⟩
              obtain ⟨lo, hlo⟩ : ∃ lo, lo = ks.filter φ := ⟨_, rfl⟩
              have L1 : Hid (lo = [(tk, r)]) := by show _ = _; rw [hlo, hφ]; exact FO.out
              obtain ⟨ks4, h4⟩ : ∃ l, l = ks.filter (fun q => !φ q) := ⟨_, rfl⟩
              have hdl : delL ks tk = ks4 := by
                rw [h4, hφ]
                unfold delL
                refine List.filter_congr fun q _ => ?_
                by_cases e : q.1 = tk <;> simp [e]
              rw [hdl] at T4
              have OK4 : Hid (Okk x y ks4) := by show Okk _ _ _; rw [← hdl]; exact hO.out.del tk
              obtain ⟨kso, hkso⟩ : ∃ l, l = ks := ⟨_, rfl⟩
              rw [← hkso] at hlo h4 HI4
              have hro : Rising kso := by rw [hkso]; exact hO.out.rising
              have hio : ∀ q ∈ kso, I64 q.1 := by rw [hkso]; exact hO.out.i64
              have hn0 : kso.length ≤ 256 := by rw [hkso]; exact N0.out
              have N4 : Hid (ks4.length ≤ 1000) := by show _ ≤ _; rw [h4]; have h1 := List.length_filter_le (fun q => !φ q) kso; omega
              clear hkso hdl hlk FO hφ
              have LO1 : Hid (∀ n x' r, lo[n]? = some (x', r) → lkL (leftL allT (lo.take n) kso) x' = some r) := fun n x' r h => by rw [hlo] at h ⊢; exact once_look hro φ h
              have LO2 : Hid (leftL allT lo kso = ks4) := by show _ = _; rw [hlo, h4]; exact once_left hro φ
              have LO3 : Hid (∀ q ∈ lo, I64 q.1) := fun q hq => hio q (by rw [hlo] at hq; exact (List.mem_filter.1 hq).1)
              have hln : lo.length ≤ 1000 := by rw [hlo]; have := List.length_filter_le φ kso; omega
              clear hlo h4 hro hio
              clear hn0
              have HSL : Hid (Sl ((w4.alloc (.cells #[.int .i64 r.p, .int .i64 tk, .int .i64 r.t] TRq)).alloc (.cells #[.int .i64 r.p, .int .i64 tk, .int .i64 r.t] TRq)) (.slice (some ⟨w4.heap.size + 1, 0, none⟩) 1 1) 3 1 [.int .i64 r.p, .int .i64 tk, .int .i64 r.t]) := by
                have := sl_new (w4.alloc (.cells #[.int .i64 r.p, .int .i64 tk, .int .i64 r.t] TRq)) #[.int .i64 r.p, .int .i64 tk, .int .i64 r.t] TRq
                rw [show (w4.alloc (.cells #[.int .i64 r.p, .int .i64 tk, .int .i64 r.t] TRq)).heap.size = w4.heap.size + 1 by simp] at this
                exact this
              go_wp2_with (at_builtin; refine app1 (base := w4.heap.size) rfl (.tmp 120) (.tmp 122) 36 TRq 3 rfl Try.underlying36 infoRq rfl (by decide) _ 0 [] _ 1 [.int .i64 r.p, .int .i64 tk, .int .i64 r.t] (by simp; omega) (World.ownsRow_nil _ _ _ _) rfl rfl HSL.out (by simp [Value.oneCell']) (by decide) (by omega) ?_; intro v' w' g1 g2 g3
                           have g1' : w'.ownsRow w4.heap.size TRq 3 v' lo.length (rqL lo) := by rw [L1.out]; exact g1
                           obtain ⟨a5, cap5, rfl, _, e5, x5⟩ := g1'.els
                           have EQ := Lib.hid e5
                           have HXG : Hid (∀ X, a5 = some X → ¬ X.block = G) := fun X h => by have := x5 X h; omega
                           have hm' := ((((Mod.refl (fun _ => False) w4).alloc (.cells #[.int .i64 r.p, .int .i64 tk, .int .i64 r.t] TRq)).alloc (.cells #[.int .i64 r.p, .int .i64 tk, .int .i64 r.t] TRq)).trans (g2.mono (fun i _ h => by simp [Value.ownBlock] at h)))
                           have TQ := Lib.hid (T4.out.new hm')
                           have IMQ := Lib.hid (HI4.out.mod hm' (fun h => h))
                           have MQ := Lib.hid (HM4.out.trans hm')
                           clear g1 g2 g3 g1' e5 x5 hm')
              obtain ⟨wq, hwq⟩ : ∃ wq, wq = w' := ⟨_, rfl⟩
              rw [← hwq] at TQ IMQ MQ EQ ⊢
              clear hwq T4 HM4 HI4
              have hIn := LO1.out
              go_wp2_with fail
              go_loopw [14] (fun v ws => ∃ n : Nat, v = .int .i64 n ∧ n ≤ lo.length ∧ Hid (IMap Try.prog 3 ws G (mpV rqv (leftL allT (lo.take n) kso))) ∧ Mod (· = G) wq ws) (fun v _ => lo.length - (intOf v).toNat)
              case atStart => exact ⟨0, rfl, Nat.zero_le _, IMQ.out, Mod.refl _ _⟩
              case round =>
                obtain ⟨n, rfl, hn, him, hmz⟩ := hrel
                obtain ⟨wz, hwz⟩ : ∃ wz : World, wz = wr := ⟨_, rfl⟩
                rw [← hwz] at hmz him ⊢
                clear hwz
                by_cases hlz : (n : Int) < lo.length
                · obtain ⟨⟨x', r⟩, hkr⟩ : ∃ q, lo[n]? = some q := ⟨_, List.getElem?_eq_getElem (by omega)⟩
                  have hxi := LO3.out _ (List.mem_of_getElem? hkr)
                  have hlk := hIn n x' r hkr
                  obtain ⟨Y, rfl, p0, p1, p2⟩ := rqEl (EQ.out.mod hmz HXG.out) (Nat.le_refl _) hkr
                  have hl : (Instr.lookup 47 (.map (some G)) (.int .i64 x') true).run Try.prog wz = .ok (.tuple #[.agg #[.int .i64 r.p, .int .i64 x', .int .i64 r.t], .bool true]) wz := by
                    have := him.out.lookOk Try.underlying3 Try.underlying47 (zeroRq _) hxi
                    rw [lk_mpV, hlk] at this
                    exact this
                  have ma := (Mod.refl (fun _ => False) wz).alloc (.cells #[.int .i64 r.p, .int .i64 x', .int .i64 r.t] TRq)
                  have HLL := Lib.hid (leftL_add allT (lo.take n) kso (x', r))
                  have HTK := Lib.hid (show lo.take (n + 1) = lo.take n ++ [(x', r)] by rw [List.take_add_one, hkr]; rfl)
                  have hlzn : n < lo.length := by omega
                  have e0 := ma.cell p0 (fun h => h); have e1 := ma.cell p1 (fun h => h); have e2 := ma.cell p2 (fun h => h)
                  have BB := Lib.hid (Blk.new wz #[.int .i64 r.p, .int .i64 x', .int .i64 r.t] TRq)
                  have IMA := Lib.hid (him.out.mod ma (fun h => h))
                  have MA := Lib.hid (hmz.trans (ma.mono (fun _ _ h => h.elim)))
                  have HXI := Lib.hid hxi
                  have hGz : G < wz.heap.size := him.out.lt
                  clear hkr hxi hlk hmz him hIn
                  go_wp2_with fail
                  obtain ⟨wy, hwy⟩ : ∃ wy, wy = wz.alloc (.cells #[.int .i64 r.p, .int .i64 x', .int .i64 r.t] TRq) := ⟨_, rfl⟩
                  obtain ⟨BY, hBY⟩ : ∃ B, B = wz.heap.size := ⟨_, rfl⟩
                  rw [← hwy] at IMA MA BB e0 e1 e2 ⊢
                  rw [← hBY] at BB ⊢
                  have y0 := BB.out.cell 0; have y1 := BB.out.cell 1; have y2 := BB.out.cell 2
                  clear hwy hBY ma hl p0 p1 p2
                  refine wp_region2 [] [] (by kernel_rfl) (by kernel_rfl) ?_
                  repeat (first | (refine reg_anyT (by rfl) (fun K hK => ?_); go_simp; refine hK _ _ ?_; clear hK K) | (refine reg_read (by rfl) (fun K hK => ?_); go_simp; refine hK _ _ ?_; clear hK K))
                  refine reg_nil (fun nd => ?_)
                  have HI9 := Lib.hid (IMA.out.drewN nd)
                  have M9 := Lib.hid (MA.out.drewN nd)
                  have E9 := EQ.out.mod M9.out HXG.out
                  obtain ⟨w9, hw9⟩ : ∃ w9, w9 = wy.drewN nd := ⟨_, rfl⟩
                  have q1 : w9.cell? ⟨(Y.add (n * 3)).block, (Y.add (n * 3)).off + 1, none⟩ = some (.int .i64 x') := by rw [hw9]; exact e1
                  rw [← hw9] at HI9 M9 ⊢
                  obtain ⟨w10, hrun, him10, hm10, hz10⟩ := HI9.out.del Try.underlying3 Try.underlying47 0 HXI.out
                  rw [del_mpV] at him10
                  have HI10 := Lib.hid him10
                  have M10 := Lib.hid (M9.out.trans hm10)
                  clear hw9 e0 e1 e2 y0 y1 y2 E9 him10 hm10 hz10
                  go_wp2_with fail
                  exact ⟨⟨n + 1, by go_num, by omega, (by show IMap _ _ _ _ _; rw [HTK.out, HLL.out]; exact HI10.out), M10.out⟩, by simp [intOf]; omega⟩
                · have hnn : n = lo.length := by omega
                  have him2 := him.out
                  rw [hnn, List.take_length, LO2.out] at him2
                  have HI9 := Lib.hid him2
                  have T9 := Lib.hid (TQ.out.mod hmz (by have := HGB.out; omega) (by have := HGB.out; omega))
                  have M9 := Lib.hid (MQ.out.new hmz (by intro i hi; have := HG.out; omega))
                  clear him him2 hmz hnn hIn
                  go_wp2_with fail
                  refine (flAll b M x y z ks4 wz T9.out N4.out OK4.out.i64).mono ?_; rintro e w11 ⟨v11, rfl, o11, m11⟩
                  obtain ⟨a11, cap11, rfl, _, _, _⟩ := o11.els
                  have T11 := Lib.hid (T9.out.new m11)
                  have HI11 := Lib.hid (HI9.out.mod m11 (fun h => h))
                  have M11 := Lib.hid (M9.out.trans m11)
                  have hln := HI11.out.len (T := 47) Try.underlying47 3
                  rw [len_mpV] at hln
                  clear o11 m11
                  go_wp2_with fail
                  exact ⟨⟨k + 1, ks4, by go_num, by omega, by omega, T11, OK4, HI11, M11.out⟩, by simp [intOf]; omega⟩
          · have d1' : (td == 1) = false := by simpa using d1
            by_cases d2 : td = 2
            · have d2' : (td == 2) = true := by simpa using d2
              clear d0 d1 d2
              go_wp2_with fail
              refine (flDrop tp b M x y z ks wv hT.out (by have := N0.out; omega) hO.out.i64).mono ?_; rintro e w4 ⟨⟨v, rfl, o4⟩, t4, m4⟩
              have OK4 := Lib.hid (hO.out.filter (fun q => !(q.2.p == tp)))
              have TQ := Lib.hid t4
              have MQ := Lib.hid (HM.out.new m4 (by intro i hi; have := HG.out; omega))
              have IMQ := Lib.hid (hI.out.mod m4 (by have := HGB.out; omega))
              obtain ⟨φ, hφ⟩ : ∃ φ : Int × Rq → Bool, φ = (fun q => q.2.p == tp) := ⟨_, rfl⟩
              obtain ⟨lo, hlo⟩ : ∃ lo, lo = ks.filter φ := ⟨_, rfl⟩
              obtain ⟨ks4, h4⟩ : ∃ l, l = ks.filter (fun q => !φ q) := ⟨_, rfl⟩
              rw [show ks.filter (fun q => q.2.p == tp) = lo by rw [hlo, hφ]] at o4
              rw [show (ks.filter fun q => !(fun q => q.2.p == tp) q) = ks4 by rw [h4, hφ]] at TQ OK4
              obtain ⟨kso, hkso⟩ : ∃ l, l = ks := ⟨_, rfl⟩
              rw [← hkso] at hlo h4 IMQ
              have hro : Rising kso := by rw [hkso]; exact hO.out.rising
              have hio : ∀ q ∈ kso, I64 q.1 := by rw [hkso]; exact hO.out.i64
              have N4 : Hid (ks4.length ≤ 1000) := by show _ ≤ _; rw [h4]; have h1 := List.length_filter_le (fun q => !φ q) kso; have h2 := N0.out; rw [← hkso] at h2; omega
              have hn0 : kso.length ≤ 256 := by rw [hkso]; exact N0.out
              obtain ⟨a5, cap5, rfl, _, e5, x5⟩ := o4.els
              have EQ := Lib.hid e5
              have HXG : Hid (∀ X, a5 = some X → ¬ X.block = G) := fun X h => by have := x5 X h; omega
              obtain ⟨wq, hwq⟩ : ∃ wq, wq = w4 := ⟨_, rfl⟩
              rw [← hwq] at TQ IMQ MQ EQ ⊢
              clear hwq o4 e5 x5 t4 m4 hφ hkso hT hI HM c0 c1 c2 c3
              have LO1 : Hid (∀ n x' r, lo[n]? = some (x', r) → lkL (leftL allT (lo.take n) kso) x' = some r) := fun n x' r h => by rw [hlo] at h ⊢; exact once_look hro φ h
              have LO2 : Hid (leftL allT lo kso = ks4) := by show _ = _; rw [hlo, h4]; exact once_left hro φ
              have LO3 : Hid (∀ q ∈ lo, I64 q.1) := fun q hq => hio q (by rw [hlo] at hq; exact (List.mem_filter.1 hq).1)
              have hln : lo.length ≤ 1000 := by rw [hlo]; have := List.length_filter_le φ kso; omega
              clear hlo h4 hro hio
              have hIn := LO1.out
              go_wp2_with fail
              go_loopw [14] (fun v ws => ∃ n : Nat, v = .int .i64 n ∧ n ≤ lo.length ∧ Hid (IMap Try.prog 3 ws G (mpV rqv (leftL allT (lo.take n) kso))) ∧ Mod (· = G) wq ws) (fun v _ => lo.length - (intOf v).toNat)
              case atStart => exact ⟨0, rfl, Nat.zero_le _, IMQ.out, Mod.refl _ _⟩
              case round =>
                obtain ⟨n, rfl, hn, him, hmz⟩ := hrel
                obtain ⟨wz, hwz⟩ : ∃ wz : World, wz = wr := ⟨_, rfl⟩
                rw [← hwz] at hmz him ⊢
                clear hwz
                by_cases hlz : (n : Int) < lo.length
                · obtain ⟨⟨x', r⟩, hkr⟩ : ∃ q, lo[n]? = some q := ⟨_, List.getElem?_eq_getElem (by omega)⟩
                  have hxi := LO3.out _ (List.mem_of_getElem? hkr)
                  have hlk := hIn n x' r hkr
                  obtain ⟨Y, rfl, p0, p1, p2⟩ := rqEl (EQ.out.mod hmz HXG.out) (Nat.le_refl _) hkr
                  have hl : (Instr.lookup 47 (.map (some G)) (.int .i64 x') true).run Try.prog wz = .ok (.tuple #[.agg #[.int .i64 r.p, .int .i64 x', .int .i64 r.t], .bool true]) wz := by
                    have := him.out.lookOk Try.underlying3 Try.underlying47 (zeroRq _) hxi
                    rw [lk_mpV, hlk] at this
                    exact this
                  have ma := (Mod.refl (fun _ => False) wz).alloc (.cells #[.int .i64 r.p, .int .i64 x', .int .i64 r.t] TRq)
                  have HLL := Lib.hid (leftL_add allT (lo.take n) kso (x', r))
                  have HTK := Lib.hid (show lo.take (n + 1) = lo.take n ++ [(x', r)] by rw [List.take_add_one, hkr]; rfl)
                  have hlzn : n < lo.length := by omega
                  have e0 := ma.cell p0 (fun h => h); have e1 := ma.cell p1 (fun h => h); have e2 := ma.cell p2 (fun h => h)
                  have BB := Lib.hid (Blk.new wz #[.int .i64 r.p, .int .i64 x', .int .i64 r.t] TRq)
                  have IMA := Lib.hid (him.out.mod ma (fun h => h))
                  have MA := Lib.hid (hmz.trans (ma.mono (fun _ _ h => h.elim)))
                  have HXI := Lib.hid hxi
                  have hGz : G < wz.heap.size := him.out.lt
                  clear hkr hxi hlk hmz him hIn
                  go_wp2_with fail
                  obtain ⟨wy, hwy⟩ : ∃ wy, wy = wz.alloc (.cells #[.int .i64 r.p, .int .i64 x', .int .i64 r.t] TRq) := ⟨_, rfl⟩
                  obtain ⟨BY, hBY⟩ : ∃ B, B = wz.heap.size := ⟨_, rfl⟩
                  rw [← hwy] at IMA MA BB e0 e1 e2 ⊢
                  rw [← hBY] at BB ⊢
                  have y0 := BB.out.cell 0; have y1 := BB.out.cell 1; have y2 := BB.out.cell 2
                  clear hwy hBY ma hl p0 p1 p2
                  refine wp_region2 [] [] (by kernel_rfl) (by kernel_rfl) ?_
                  repeat (first | (refine reg_anyT (by rfl) (fun K hK => ?_); go_simp; refine hK _ _ ?_; clear hK K) | (refine reg_read (by rfl) (fun K hK => ?_); go_simp; refine hK _ _ ?_; clear hK K))
                  refine reg_nil (fun nd => ?_)
                  have HI9 := Lib.hid (IMA.out.drewN nd)
                  have M9 := Lib.hid (MA.out.drewN nd)
                  have E9 := EQ.out.mod M9.out HXG.out
                  obtain ⟨w9, hw9⟩ : ∃ w9, w9 = wy.drewN nd := ⟨_, rfl⟩
                  have q1 : w9.cell? ⟨(Y.add (n * 3)).block, (Y.add (n * 3)).off + 1, none⟩ = some (.int .i64 x') := by rw [hw9]; exact e1
                  rw [← hw9] at HI9 M9 ⊢
                  obtain ⟨w10, hrun, him10, hm10, hz10⟩ := HI9.out.del Try.underlying3 Try.underlying47 0 HXI.out
                  rw [del_mpV] at him10
                  have HI10 := Lib.hid him10
                  have M10 := Lib.hid (M9.out.trans hm10)
                  clear hw9 e0 e1 e2 y0 y1 y2 E9 him10 hm10 hz10
                  go_wp2_with fail
                  exact ⟨⟨n + 1, by go_num, by omega, (by show IMap _ _ _ _ _; rw [HTK.out, HLL.out]; exact HI10.out), M10.out⟩, by simp [intOf]; omega⟩
                · have hnn : n = lo.length := by omega
                  have him2 := him.out
                  rw [hnn, List.take_length, LO2.out] at him2
                  have HI9 := Lib.hid him2
                  have T9 := Lib.hid (TQ.out.mod hmz (by have := HGB.out; omega) (by have := HGB.out; omega))
                  have M9 := Lib.hid (MQ.out.new hmz (by intro i hi; have := HG.out; omega))
                  clear him him2 hmz hnn hIn
                  go_wp2_with fail
                  refine (flAll b M x y z ks4 wz T9.out N4.out OK4.out.i64).mono ?_; rintro e w11 ⟨v11, rfl, o11, m11⟩
                  obtain ⟨a11, cap11, rfl, _, _, _⟩ := o11.els
                  have T11 := Lib.hid (T9.out.new m11)
                  have HI11 := Lib.hid (HI9.out.mod m11 (fun h => h))
                  have M11 := Lib.hid (M9.out.trans m11)
                  have hln := HI11.out.len (T := 47) Try.underlying47 3
                  rw [len_mpV] at hln
                  clear o11 m11
                  go_wp2_with fail
                  exact ⟨⟨k + 1, ks4, by go_num, by omega, by omega, T11, OK4, HI11, M11.out⟩, by simp [intOf]; omega⟩
            · have d2' : (td == 2) = false := by simpa using d2
              by_cases d3 : td = 3
              · have d3' : (td == 3) = true := by simpa using d3
                clear d0 d1 d2 d3
                by_cases hmo : mom tt
                · go_wp2_with fail
                  refine (flLate tt b M x y z ks wv hT.out (by have := N0.out; omega) hO.out.i64 hmo hO.out.tm).mono ?_; rintro e w4 ⟨⟨v, rfl, o4⟩, t4, m4⟩
                  have OK4 := Lib.hid (hO.out.filter (fun q => !decide (z ≤ tt - q.2.t)))
                  have TQ := Lib.hid t4
                  have MQ := Lib.hid (HM.out.new m4 (by intro i hi; have := HG.out; omega))
                  have IMQ := Lib.hid (hI.out.mod m4 (by have := HGB.out; omega))
                  clear hmo
                  obtain ⟨φ, hφ⟩ : ∃ φ : Int × Rq → Bool, φ = (fun q => decide (z ≤ tt - q.2.t)) := ⟨_, rfl⟩
                  obtain ⟨lo, hlo⟩ : ∃ lo, lo = ks.filter φ := ⟨_, rfl⟩
                  obtain ⟨ks4, h4⟩ : ∃ l, l = ks.filter (fun q => !φ q) := ⟨_, rfl⟩
                  rw [show ks.filter (fun q => decide (z ≤ tt - q.2.t)) = lo by rw [hlo, hφ]] at o4
                  rw [show (ks.filter fun q => !(fun q => decide (z ≤ tt - q.2.t)) q) = ks4 by rw [h4, hφ]] at TQ OK4
                  obtain ⟨kso, hkso⟩ : ∃ l, l = ks := ⟨_, rfl⟩
                  rw [← hkso] at hlo h4 IMQ
                  have hro : Rising kso := by rw [hkso]; exact hO.out.rising
                  have hio : ∀ q ∈ kso, I64 q.1 := by rw [hkso]; exact hO.out.i64
                  have N4 : Hid (ks4.length ≤ 1000) := by show _ ≤ _; rw [h4]; have h1 := List.length_filter_le (fun q => !φ q) kso; have h2 := N0.out; rw [← hkso] at h2; omega
                  have hn0 : kso.length ≤ 256 := by rw [hkso]; exact N0.out
                  obtain ⟨a5, cap5, rfl, _, e5, x5⟩ := o4.els
                  have EQ := Lib.hid e5
                  have HXG : Hid (∀ X, a5 = some X → ¬ X.block = G) := fun X h => by have := x5 X h; omega
                  obtain ⟨wq, hwq⟩ : ∃ wq, wq = w4 := ⟨_, rfl⟩
                  rw [← hwq] at TQ IMQ MQ EQ ⊢
                  clear hwq o4 e5 x5 t4 m4 hφ hkso hT hI HM c0 c1 c2 c3
                  have LO1 : Hid (∀ n x' r, lo[n]? = some (x', r) → lkL (leftL allT (lo.take n) kso) x' = some r) := fun n x' r h => by rw [hlo] at h ⊢; exact once_look hro φ h
                  have LO2 : Hid (leftL allT lo kso = ks4) := by show _ = _; rw [hlo, h4]; exact once_left hro φ
                  have LO3 : Hid (∀ q ∈ lo, I64 q.1) := fun q hq => hio q (by rw [hlo] at hq; exact (List.mem_filter.1 hq).1)
                  have hln : lo.length ≤ 1000 := by rw [hlo]; have := List.length_filter_le φ kso; omega
                  clear hlo h4 hro hio
                  have hIn := LO1.out
                  go_wp2_with fail
                  go_loopw [14] (fun v ws => ∃ n : Nat, v = .int .i64 n ∧ n ≤ lo.length ∧ Hid (IMap Try.prog 3 ws G (mpV rqv (leftL allT (lo.take n) kso))) ∧ Mod (· = G) wq ws) (fun v _ => lo.length - (intOf v).toNat)
                  case atStart => exact ⟨0, rfl, Nat.zero_le _, IMQ.out, Mod.refl _ _⟩
                  case round =>
                    obtain ⟨n, rfl, hn, him, hmz⟩ := hrel
                    obtain ⟨wz, hwz⟩ : ∃ wz : World, wz = wr := ⟨_, rfl⟩
                    rw [← hwz] at hmz him ⊢
                    clear hwz
                    by_cases hlz : (n : Int) < lo.length
                    · obtain ⟨⟨x', r⟩, hkr⟩ : ∃ q, lo[n]? = some q := ⟨_, List.getElem?_eq_getElem (by omega)⟩
                      have hxi := LO3.out _ (List.mem_of_getElem? hkr)
                      have hlk := hIn n x' r hkr
                      obtain ⟨Y, rfl, p0, p1, p2⟩ := rqEl (EQ.out.mod hmz HXG.out) (Nat.le_refl _) hkr
                      have hl : (Instr.lookup 47 (.map (some G)) (.int .i64 x') true).run Try.prog wz = .ok (.tuple #[.agg #[.int .i64 r.p, .int .i64 x', .int .i64 r.t], .bool true]) wz := by
                        have := him.out.lookOk Try.underlying3 Try.underlying47 (zeroRq _) hxi
                        rw [lk_mpV, hlk] at this
                        exact this
                      have ma := (Mod.refl (fun _ => False) wz).alloc (.cells #[.int .i64 r.p, .int .i64 x', .int .i64 r.t] TRq)
                      have HLL := Lib.hid (leftL_add allT (lo.take n) kso (x', r))
                      have HTK := Lib.hid (show lo.take (n + 1) = lo.take n ++ [(x', r)] by rw [List.take_add_one, hkr]; rfl)
                      have hlzn : n < lo.length := by omega
                      have e0 := ma.cell p0 (fun h => h); have e1 := ma.cell p1 (fun h => h); have e2 := ma.cell p2 (fun h => h)
                      have BB := Lib.hid (Blk.new wz #[.int .i64 r.p, .int .i64 x', .int .i64 r.t] TRq)
                      have IMA := Lib.hid (him.out.mod ma (fun h => h))
                      have MA := Lib.hid (hmz.trans (ma.mono (fun _ _ h => h.elim)))
                      have HXI := Lib.hid hxi
                      have hGz : G < wz.heap.size := him.out.lt
                      clear hkr hxi hlk hmz him hIn
                      go_wp2_with fail
                      obtain ⟨wy, hwy⟩ : ∃ wy, wy = wz.alloc (.cells #[.int .i64 r.p, .int .i64 x', .int .i64 r.t] TRq) := ⟨_, rfl⟩
                      obtain ⟨BY, hBY⟩ : ∃ B, B = wz.heap.size := ⟨_, rfl⟩
                      rw [← hwy] at IMA MA BB e0 e1 e2 ⊢
                      rw [← hBY] at BB ⊢
                      have y0 := BB.out.cell 0; have y1 := BB.out.cell 1; have y2 := BB.out.cell 2
                      clear hwy hBY ma hl p0 p1 p2
                      refine wp_region2 [] [] (by kernel_rfl) (by kernel_rfl) ?_
                      repeat (first | (refine reg_anyT (by rfl) (fun K hK => ?_); go_simp; refine hK _ _ ?_; clear hK K) | (refine reg_read (by rfl) (fun K hK => ?_); go_simp; refine hK _ _ ?_; clear hK K))
                      refine reg_nil (fun nd => ?_)
                      have HI9 := Lib.hid (IMA.out.drewN nd)
                      have M9 := Lib.hid (MA.out.drewN nd)
                      have E9 := EQ.out.mod M9.out HXG.out
                      obtain ⟨w9, hw9⟩ : ∃ w9, w9 = wy.drewN nd := ⟨_, rfl⟩
                      have q1 : w9.cell? ⟨(Y.add (n * 3)).block, (Y.add (n * 3)).off + 1, none⟩ = some (.int .i64 x') := by rw [hw9]; exact e1
                      rw [← hw9] at HI9 M9 ⊢
                      obtain ⟨w10, hrun, him10, hm10, hz10⟩ := HI9.out.del Try.underlying3 Try.underlying47 0 HXI.out
                      rw [del_mpV] at him10
                      have HI10 := Lib.hid him10
                      have M10 := Lib.hid (M9.out.trans hm10)
                      clear hw9 e0 e1 e2 y0 y1 y2 E9 him10 hm10 hz10
                      go_wp2_with fail
                      exact ⟨⟨n + 1, by go_num, by omega, (by show IMap _ _ _ _ _; rw [HTK.out, HLL.out]; exact HI10.out), M10.out⟩, by simp [intOf]; omega⟩
                    · have hnn : n = lo.length := by omega
                      have him2 := him.out
                      rw [hnn, List.take_length, LO2.out] at him2
                      have HI9 := Lib.hid him2
                      have T9 := Lib.hid (TQ.out.mod hmz (by have := HGB.out; omega) (by have := HGB.out; omega))
                      have M9 := Lib.hid (MQ.out.new hmz (by intro i hi; have := HG.out; omega))
                      clear him him2 hmz hnn hIn
                      go_wp2_with fail
                      refine (flAll b M x y z ks4 wz T9.out N4.out OK4.out.i64).mono ?_; rintro e w11 ⟨v11, rfl, o11, m11⟩
                      obtain ⟨a11, cap11, rfl, _, _, _⟩ := o11.els
                      have T11 := Lib.hid (T9.out.new m11)
                      have HI11 := Lib.hid (HI9.out.mod m11 (fun h => h))
                      have M11 := Lib.hid (M9.out.trans m11)
                      have hln := HI11.out.len (T := 47) Try.underlying47 3
                      rw [len_mpV] at hln
                      clear o11 m11
                      go_wp2_with fail
                      exact ⟨⟨k + 1, ks4, by go_num, by omega, by omega, T11, OK4, HI11, M11.out⟩, by simp [intOf]; omega⟩
                · go_wp2_with fail
                  refine (flLateBad tt b wv hmo).mono ?_; rintro e w4 ⟨rfl, m4⟩
                  have TQ := Lib.hid (hT.out.new m4)
                  have IMQ := Lib.hid (hI.out.mod m4 (fun h => h))
                  have MQ := Lib.hid (HM.out.trans m4)
                  have OK4 := hO
                  obtain ⟨ks4, hks4⟩ : ∃ l, l = ks := ⟨_, rfl⟩
                  rw [← hks4] at TQ IMQ OK4
                  obtain ⟨wq, hwq⟩ : ∃ wq, wq = w4 := ⟨_, rfl⟩
                  rw [← hwq] at TQ IMQ MQ ⊢
                  clear hks4 hwq m4 hT hI HM hmo c0 c1 c2 c3
                  go_wp2_with fail
                  go_loopw [14] (fun v ws => v = .int .i64 0 ∧ ws = wq) (fun _ _ => 0)
                  case atStart => exact ⟨rfl, rfl⟩
                  case round =>
                    obtain ⟨rfl, hwr⟩ := hrel
                    rw [hwr]
                    clear hwr
                    go_wp2_with fail
                    refine (flAll b M x y z ks4 wq TQ.out (by have := OK4.out.len; have := HX.out; omega) OK4.out.i64).mono ?_; rintro e w11 ⟨v11, rfl, o11, m11⟩
                    obtain ⟨a11, cap11, rfl, _, _, _⟩ := o11.els
                    have T11 := Lib.hid (TQ.out.new m11)
                    have HI11 := Lib.hid (IMQ.out.mod m11 (fun h => h))
                    have M11 := Lib.hid (MQ.out.trans m11)
                    have hln := HI11.out.len (T := 47) Try.underlying47 3
                    rw [len_mpV] at hln
                    clear o11 m11
                    go_wp2_with fail
                    exact ⟨⟨k + 1, ks4, by go_num, by omega, by omega, T11, OK4, HI11, M11.out⟩, by simp [intOf]; omega⟩
              · have d3' : (td == 3) = false := by simpa using d3
                have TQ := hT
                have IMQ := hI
                have MQ := HM
                have OK4 := hO
                obtain ⟨ks4, hks4⟩ : ∃ l, l = ks := ⟨_, rfl⟩
                rw [← hks4] at TQ IMQ OK4
                obtain ⟨wq, hwq⟩ : ∃ wq, wq = wv := ⟨_, rfl⟩
                rw [← hwq] at TQ IMQ MQ ⊢
                have k0 : wq.cell? (X.add (k * 4)) = some (.int .i64 td) := by rw [hwq]; exact c0
                clear hks4 hwq hT hI HM d0 d1 d2 d3 c0 c1 c2 c3
                go_wp2_with fail
                go_loopw [14] (fun v ws => v = .int .i64 0 ∧ ws = wq) (fun _ _ => 0)
                case atStart => exact ⟨rfl, rfl⟩
                case round =>
                  obtain ⟨rfl, hwr⟩ := hrel
                  rw [hwr]
                  clear hwr
                  go_wp2_with fail
                  refine (flAll b M x y z ks4 wq TQ.out (by have := OK4.out.len; have := HX.out; omega) OK4.out.i64).mono ?_; rintro e w11 ⟨v11, rfl, o11, m11⟩
                  obtain ⟨a11, cap11, rfl, _, _, _⟩ := o11.els
                  have T11 := Lib.hid (TQ.out.new m11)
                  have HI11 := Lib.hid (IMQ.out.mod m11 (fun h => h))
                  have M11 := Lib.hid (MQ.out.trans m11)
                  have hln := HI11.out.len (T := 47) Try.underlying47 3
                  rw [len_mpV] at hln
                  clear o11 m11
                  go_wp2_with fail
                  exact ⟨⟨k + 1, ks4, by go_num, by omega, by omega, T11, OK4, HI11, M11.out⟩, by simp [intOf]; omega⟩
      · have hend : (k : Int) < len1 → ¬ (k : Int) < 100 := by omega
        have HM := Lib.hid hm
        clear hm hlt
        by_cases h6 : (k : Int) < len1
        · have h7 : ¬ (k : Int) < 100 := hend h6
          clear hend
          go_wp2_with fail
          go_ret
          exact ⟨rfl, MX.out.trans HM.out⟩
        · clear hend
          go_wp2_with fail
          go_ret
          exact ⟨rfl, MX.out.trans HM.out⟩
  · have HOK := Lib.hid hok
    clear hok
    go_enter Try.func5, Try.ntmps5
    go_wp2_with fail
    rw [← HW0.out, ← HBX.out]
    refine (awake16 w0).mono ?_; rintro e w1 ⟨rfl, m1⟩
    have X1 := Lib.hid (X0.out.mod m1 (fun h => h))
    have M1 := Lib.hid (MX.out.trans m1)
    have c0 := X1.out.cell 0; have c1 := X1.out.cell 1; have c2 := X1.out.cell 2
    clear m1
    go_wp2_with fail
    refine (flNewBad x y z _ HOK.out).mono ?_; rintro e w' ⟨rfl, rfl⟩
    go_wp2_with fail
    go_ret
    exact ⟨rfl, M1.out⟩
end Go.Proofs.Ytfdmamaldgpbaaa
