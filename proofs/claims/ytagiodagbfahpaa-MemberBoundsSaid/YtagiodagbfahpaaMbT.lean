/- Package member: Tick; no condition. -/
import Derived.Test.YtagiodagbfahpaaMcA
namespace Go.Proofs.Ytagiodagbfahpaa
open Go Go.RowKit

/-- Where one is put in. -/
theorem ins_at {α : Type} (x : Int × α) : ∀ (ks : List (Int × α)) (k : Nat), (∀ (j : Nat) (q : Int × α), j < k → ks[j]? = some q → q.1 < x.1) → k ≤ ks.length → (∀ q, ks[k]? = some q → x.1 < q.1) → insS x ks = ks.take k ++ x :: ks.drop k
  | [], k, _, hk, _ => by simp at hk; subst hk; rfl
  | y :: t, 0, _, _, h2 => by
    have := h2 y rfl
    unfold insS
    rw [if_pos this]
    rfl
  | y :: t, k + 1, h1, hk, h2 => by
    have := h1 0 y (by omega) rfl
    unfold insS
    rw [if_neg (by omega), ins_at x t k (fun j q hj hq => h1 (j + 1) q (by omega) (by simpa using hq)) (by simpa using hk) (fun q hq => h2 q (by simpa using hq))]
    rfl
theorem put_at {ks : List (Int × Rc)} (hr : Rising ks) {i : Nat} {id : Int} {r : Rc} (h : ks[i]? = some (id, r)) (r' : Rc) : putL ks id r' = ks.set i (id, r') := by
  have hi := (List.getElem?_eq_some_iff.1 h).1
  unfold putL
  rw [del_at hr h]
  have hlow : ∀ (j : Nat) (q : Int × Rc), j < i → ks[j]? = some q → q.1 < id := by
    intro j q hj hq
    have hj' := (List.getElem?_eq_some_iff.1 hq).1
    have := List.pairwise_iff_getElem.1 hr j i hj' hi hj
    rw [(List.getElem?_eq_some_iff.1 hq).2, (List.getElem?_eq_some_iff.1 h).2] at this
    exact this
  have hhigh : ∀ (j : Nat) (q : Int × Rc), i < j → ks[j]? = some q → id < q.1 := by
    intro j q hj hq
    have hj' := (List.getElem?_eq_some_iff.1 hq).1
    have := List.pairwise_iff_getElem.1 hr i j hi hj' hj
    rw [(List.getElem?_eq_some_iff.1 hq).2, (List.getElem?_eq_some_iff.1 h).2] at this
    exact this
  have hlt : (ks.take i).length = i := by simp; omega
  rw [ins_at (id, r') (ks.take i ++ ks.drop (i + 1)) i ?_ (by simp; omega) ?_, List.take_append_of_le_length (by omega), List.take_of_length_le (by omega), List.drop_append_of_le_length (by omega), List.drop_of_length_le (by omega), List.nil_append, List.set_eq_take_append_cons_drop, if_pos hi]
  · intro j q hj hq
    rw [List.getElem?_append_left (by omega), List.getElem?_take, if_pos hj] at hq
    exact hlow j q hj hq
  · intro q hq
    rw [List.getElem?_append_right (by omega), hlt, Nat.sub_self, List.getElem?_drop] at hq
    exact hhigh _ q (by omega) hq
theorem del_mid {A B : List (Int × Rc)} {q : Int × Rc} (hr : Rising (A ++ q :: B)) : delL (A ++ q :: B) q.1 = A ++ B := by
  have h : (A ++ q :: B)[A.length]? = some q := by simp
  rw [del_at hr h, List.take_append_of_le_length (Nat.le_refl _), List.take_length, List.drop_append, List.drop_of_length_le (by omega), List.nil_append, show A.length + 1 - A.length = 1 by omega]
  rfl
theorem put_mid {A B : List (Int × Rc)} {id : Int} {r : Rc} (hr : Rising (A ++ (id, r) :: B)) (r' : Rc) : putL (A ++ (id, r) :: B) id r' = A ++ (id, r') :: B := by
  have h : (A ++ (id, r) :: B)[A.length]? = some (id, r) := by simp
  rw [put_at hr h]
  simp

/-- What Tick does with one. -/
def gone (now pat : Int) (q : Int × Rc) : Bool := q.2.u == 3 && decide (4 * pat ≤ now - q.2.b)
def fell (now pat : Int) (q : Int × Rc) : Bool := q.2.u == 2 && decide (pat ≤ now - q.2.b)
def tick1 (now pat : Int) (q : Int × Rc) : List (Int × Rc) := if gone now pat q then [] else if fell now pat q then [(q.1, ⟨q.2.s, 3, now⟩)] else [q]
def tickL (now pat : Int) (ks : List (Int × Rc)) : List (Int × Rc) := ks.flatMap (tick1 now pat)
def fallen (now pat : Int) (ks : List (Int × Rc)) : List Int := keysL (ks.filter (fell now pat))
theorem tickL_snoc (now pat : Int) (ks : List (Int × Rc)) (q : Int × Rc) : tickL now pat (ks ++ [q]) = tickL now pat ks ++ tick1 now pat q := by simp [tickL]
theorem tickL_len (now pat : Int) : ∀ ks : List (Int × Rc), (tickL now pat ks).length ≤ ks.length
  | [] => Nat.le_refl _
  | q :: t => by
    have h := tickL_len now pat t
    unfold tickL at h ⊢
    rw [List.flatMap_cons, List.length_append]
    have : (tick1 now pat q).length ≤ 1 := by
      unfold tick1
      split
      · simp
      · split <;> simp
    simp only [List.length_cons]
    omega
theorem fallen_snoc (now pat : Int) (ks : List (Int × Rc)) (q : Int × Rc) : fallen now pat (ks ++ [q]) = fallen now pat ks ++ if fell now pat q then [q.1] else [] := by
  unfold fallen
  rw [List.filter_append, keys_append]
  congr 1
  rw [List.filter_cons]
  split <;> simp [keysL]

set_option maxRecDepth 100000 in
set_option maxHeartbeats 1000000 in
theorem memTickBad (now pat : Int) (b : Nat) (w : World) (h : ¬ (0 ≤ now ∧ now ≤ 1099511627776 ∧ 1 ≤ pat ∧ pat ≤ 1048576)) :
    Calls Try.prog 19 #[.pointer (some ⟨b, 0, none⟩), .int .i64 now, .int .i64 pat] w fun e w' => e = .returned (.tuple #[.slice none 0 0, .int .i64 1]) ∧ w = w' := by
  by_cases g1 : 0 ≤ now ∧ now ≤ 1099511627776
  · have e1 := in_yes g1
    have e2 : (decide (1 ≤ pat) && decide (pat ≤ 1048576)) = false := in_no (by omega)
    clear h g1
    go_enter Try.func19, Try.ntmps19
    go_wp2_with fail
    refine (memWithin _ _ _ _).mono ?_; rw [e1]; rintro e w' ⟨rfl, rfl⟩
    go_wp2_with fail
    refine (memWithin _ _ _ _).mono ?_; rw [e2]; rintro e w' ⟨rfl, rfl⟩
    go_wp2_with fail
    go_ret2
    exact ⟨rfl, rfl⟩
  · have e1 := in_no g1
    clear h g1
    go_enter Try.func19, Try.ntmps19
    go_wp2_with fail
    refine (memWithin _ _ _ _).mono ?_; rw [e1]; rintro e w' ⟨rfl, rfl⟩
    go_wp2_with fail
    go_ret2
    exact ⟨rfl, rfl⟩

set_option maxRecDepth 100000 in
set_option maxHeartbeats 4000000 in
theorem memTick (now pat : Int) (b M : Nat) (S : Int × Rc) (most : Int) (ks : List (Int × Rc)) (w : World) (h : VW w b M S most ks) (hok : OkV most ks) (hm : most ≤ 64) (hn : 0 ≤ now ∧ now ≤ 1099511627776) (hp : 1 ≤ pat ∧ pat ≤ 1048576) :
    Calls Try.prog 19 #[.pointer (some ⟨b, 0, none⟩), .int .i64 now, .int .i64 pat] w fun e w' => (∃ v, e = .returned (.tuple #[v, .int .i64 0]) ∧ w'.ownsRow w.heap.size 3 1 v (fallen now pat ks).length (intL (fallen now pat ks))) ∧ VW w' b M S most (tickL now pat ks) ∧ Mod (· = M) w w' := by
  have e1 := in_yes hn
  have e2 := in_yes hp
  have hlen : ks.length ≤ 64 := by have := hok.len; omega
  have HALL := Lib.hid (memAll b M S most ks w h (by omega) hok.i64)
  have H := Lib.hid h
  have HOK := Lib.hid hok
  clear h hok
  go_enter Try.func19, Try.ntmps19
  go_wp2_with fail
  refine (memWithin _ _ _ _).mono ?_; rw [e1]; rintro e w' ⟨rfl, rfl⟩
  go_wp2_with fail
  refine (memWithin _ _ _ _).mono ?_; rw [e2]; rintro e w' ⟨rfl, rfl⟩
  clear e1 e2
  go_wp2_with fail
  refine HALL.out.mono ?_; rintro e w2 ⟨⟨v2, rfl, o2⟩, m2⟩
  obtain ⟨a2, cap2, rfl, hcap2, el2, hbk⟩ := o2.els
  have E2 := Lib.hid el2
  have V2 := Lib.hid (H.out.new m2)
  have M2 := Lib.hid m2
  have HBK : Hid (∀ X, a2 = some X → X.block ≠ M) := by
    intro X hX
    have := hbk X hX
    have := H.out.lt
    omega
  clear o2 m2 el2 hbk
  go_wp2_with fail
  go_loopw [8, 23] (fun v i wr => ∃ k : Nat, i = .int .i64 k ∧ k ≤ ks.length ∧ Hid (wr.ownsRow w2.heap.size 3 1 v (fallen now pat (ks.take k)).length (intL (fallen now pat (ks.take k)))) ∧ Hid (VW wr b M S most (tickL now pat (ks.take k) ++ ks.drop k)) ∧ Hid (Mod (· = M) w2 wr)) (fun _ i _ => ks.length - (intOf i).toNat)
  case atStart => exact ⟨0, rfl, Nat.zero_le _, World.ownsRow_nil _ _ _ _, V2.out, Mod.refl _ _⟩
  case round =>
    obtain ⟨k, rfl, hk, hown, hV, hm⟩ := hrel
    by_cases hlt : (k : Int) < ks.length
    · obtain ⟨⟨x, r⟩, hkr⟩ : ∃ q, ks[k]? = some q := ⟨_, List.getElem?_eq_getElem (by omega)⟩
      obtain ⟨X, rfl, p0, p1, p2, p3⟩ := recEl (E2.out.mod hm.out HBK.out) (Nat.le_refl _) hkr
      have HTK := Lib.hid (show ks.take (k + 1) = ks.take k ++ [(x, r)] by rw [List.take_add_one, hkr]; rfl)
      have hkl : k < ks.length := by omega
      have hdr : ks.drop k = (x, r) :: ks.drop (k + 1) := by
        rw [List.drop_eq_getElem_cons hkl, (List.getElem?_eq_some_iff.1 hkr).2]
      have hq := HOK.out.each _ (List.mem_of_getElem? hkr)
      have HXI := Lib.hid (HOK.out.i64 _ (List.mem_of_getElem? hkr))
      have hV2 := hV.out
      rw [hdr] at hV2
      have HRI := Lib.hid (rising_mp.1 hV2.map.rising)
      obtain ⟨rs, ru, rb⟩ := r
      dsimp only at p0 p1 p2 p3 hq
      have ma := (Mod.refl (fun _ => False) wr).alloc (.cells #[.int .i64 x, .int .i64 rs, .int .i64 ru, .int .i64 rb] TMb)
      have XA := Lib.hid (Blk.new wr #[.int .i64 x, .int .i64 rs, .int .i64 ru, .int .i64 rb] TMb)
      have VA := Lib.hid (hV2.new ma)
      have OA := Lib.hid (hown.out.alloc (.cells #[.int .i64 x, .int .i64 rs, .int .i64 ru, .int .i64 rb] TMb))
      have MA := Lib.hid (hm.out.trans (ma.mono (fun _ _ h => h.elim)))
      have hbw := VA.out.lt
      have hMw := hV2.lt
      have HMW := Lib.hid hMw
      have HWS := Lib.hid hm.out.size
      obtain ⟨TL, hTL⟩ : ∃ TL, TL = tickL now pat (ks.take k) := ⟨_, rfl⟩
      obtain ⟨DR, hDR⟩ : ∃ DR, DR = ks.drop (k + 1) := ⟨_, rfl⟩
      have HSN := Lib.hid (tickL_snoc now pat (ks.take k) (x, ⟨rs, ru, rb⟩))
      have HFN := Lib.hid (fallen_snoc now pat (ks.take k) (x, ⟨rs, ru, rb⟩))
      rw [← hTL] at VA HRI HSN
      rw [← hDR] at VA HRI
      have HDR := Lib.hid hDR
      have HTD : Hid ((TL ++ (x, (⟨rs, ru, rb⟩ : Rc)) :: DR).length ≤ 64) := by
        show _ ≤ _
        have h1 := tickL_len now pat (ks.take k)
        rw [List.length_take] at h1
        rw [hTL, hDR, List.length_append, List.length_cons, List.length_drop]
        omega
      have hfl : (fallen now pat (ks.take k)).length ≤ 64 := by
        unfold fallen
        rw [keys_len]
        have h1 := List.length_filter_le (fell now pat) (ks.take k)
        have h2 : (ks.take k).length ≤ k := List.length_take_le _ _
        omega
      obtain ⟨ag, hag⟩ : ∃ a, a = now - rb := ⟨_, rfl⟩
      have hwr : IntKind.i64.wrap (now - rb) = ag := by rw [hag]; unfold IntKind.wrap; simp [IntKind.bits, IntKind.signed]; omega
      obtain ⟨p4, hp4⟩ : ∃ p, p = 4 * pat := ⟨_, rfl⟩
      have hw4 : IntKind.i64.wrap (4 * pat) = p4 := by rw [hp4]; unfold IntKind.wrap; simp [IntKind.bits, IntKind.signed]; omega
      have HG : Hid (gone now pat (x, ⟨rs, ru, rb⟩) = (ru == 3 && decide (p4 ≤ ag))) := by show _ = _; unfold gone; rw [hp4, hag]
      have HF : Hid (fell now pat (x, ⟨rs, ru, rb⟩) = (ru == 2 && decide (pat ≤ ag))) := by show _ = _; unfold fell; rw [hag]
      clear hkr hdr hV2 hTL hDR hq ma hown hV hm hag hp4 hMw
      obtain ⟨B, hB⟩ : ∃ B, B = wr.heap.size := ⟨_, rfl⟩
      rw [← hB] at XA
      have HBM : Hid (b < B ∧ M < B) := by show _ ∧ _; rw [hB]; exact HMW.out
      have HB2 : Hid (w2.heap.size ≤ B) := by show _ ≤ _; rw [hB]; exact HWS.out
      have HBW : Hid (b < w2.heap.size ∧ M < w2.heap.size) := V2.out.lt
      have hk1 : ks.length - (k + 1) < ks.length - k := by omega
      go_upto_region 7 with fail
      rw [← hB]
      generalize wr.alloc (.cells #[.int .i64 x, .int .i64 rs, .int .i64 ru, .int .i64 rb] TMb) = wa at *
      have x0 := XA.out.cell 0; have x2 := XA.out.cell 2; have x3 := XA.out.cell 3
      have v5 := VA.out.head.cell 5
      clear p0 p1 p2 p3 hB
      by_cases h3 : ru = 3
      · have h3' : (ru == 3) = true := by simpa using h3
        have h2' : (ru == 2) = false := by simp; omega
        by_cases hg : p4 ≤ ag
        · have GT : Hid (gone now pat (x, ⟨rs, ru, rb⟩) = true) := by show _ = _; rw [HG.out, h3']; simpa using hg
          have FT : Hid (fell now pat (x, ⟨rs, ru, rb⟩) = false) := by show _ = _; rw [HF.out, h2']; rfl
          clear h3
          go_upto_region 9 with fail
          refine wp_region2 [] [] (by kernel_rfl) (by kernel_rfl) ?_
          repeat (first | (refine reg_anyT (by rfl) (fun K hK => ?_); go_simp; refine hK _ _ ?_; clear hK K) | (refine reg_read (by rfl) (fun K hK => ?_); go_simp; refine hK _ _ ?_; clear hK K))
          refine reg_eff (by rfl) (fun rn K hK => ?_)
          obtain ⟨w4, hrun, him, hm4, hz4⟩ := (VA.out.drewN rn).map.del Try.underlying3 Try.underlying64 0 HXI.out
          go_simp
          refine hK _ _ ?_; clear hK K
          rw [del_mp, del_mid HRI.out] at him
          refine reg_nil (fun nd => ?_)
          have V4 : Hid (VW (w4.drewN nd) b M S most (TL ++ DR)) := (show VW w4 b M S most (TL ++ DR) from ⟨(VA.out.drewN rn).head.mod hm4 (fun e => VA.out.ne e.symm), him, VA.out.ne⟩).drewN nd
          have O4 := Lib.hid (owns_modG OA.out (hm4.undrew.drewN nd) (fun i hi e => by have := HBW.out; omega))
          have M4 := Lib.hid (MA.out.trans (hm4.undrew.drewN nd))
          clear hm4 him hz4 hrun x0 x2 x3 v5
          go_wp2_with fail
          refine ⟨⟨k + 1, by go_num, by omega, ?_, ?_, M4⟩, by simp [intOf]; omega⟩
          · show World.ownsRow _ _ _ _ _ _ _
            rw [HTK.out, HFN.out, FT.out]
            simpa using O4.out
          · show VW _ _ _ _ _ _
            rw [HTK.out, HSN.out, ← HDR.out]
            unfold tick1
            rw [GT.out, if_pos rfl, List.append_nil]
            exact V4.out
        · have hg' : decide (p4 ≤ ag) = false := by simpa using hg
          have GT : Hid (gone now pat (x, ⟨rs, ru, rb⟩) = false) := by show _ = _; rw [HG.out, hg']; simp
          have FT : Hid (fell now pat (x, ⟨rs, ru, rb⟩) = false) := by show _ = _; rw [HF.out, h2']; rfl
          clear h3 hg
          go_wp2_with fail
          refine ⟨⟨k + 1, by go_num, by omega, ?_, ?_, MA⟩, by simp [intOf]; omega⟩
          · show World.ownsRow _ _ _ _ _ _ _
            rw [HTK.out, HFN.out, FT.out]
            simpa using OA.out
          · show VW _ _ _ _ _ _
            rw [HTK.out, HSN.out, ← HDR.out]
            unfold tick1
            rw [GT.out, FT.out]
            simpa using VA.out
      · have h3' : (ru == 3) = false := by simpa using h3
        have GT : Hid (gone now pat (x, ⟨rs, ru, rb⟩) = false) := by show _ = _; rw [HG.out, h3']; rfl
        by_cases h2 : ru = 2 ∧ pat ≤ ag
        · have h2' : (ru == 2) = true := by simpa using h2.1
          have hg := h2.2
          have FT : Hid (fell now pat (x, ⟨rs, ru, rb⟩) = true) := by show _ = _; rw [HF.out, h2']; simpa using hg
          have HTN := Lib.hid (memTurn x 3 now ⟨rs, ru, rb⟩ b M S most (TL ++ (x, ⟨rs, ru, rb⟩) :: DR) wa VA.out HXI.out (lk_of_mem HRI.out (by simp)) (by have := HTD.out; unfold maxLen; omega))
          rw [put_mid HRI.out] at HTN
          clear h3 h2
          go_wp2_with fail
          refine HTN.out.mono ?_; rintro e w4 ⟨rfl, v4, m4⟩
          have V4 := Lib.hid v4
          have O4 := Lib.hid (owns_modG OA.out m4 (fun i hi e => by have := HBW.out; omega))
          have M4 := Lib.hid (MA.out.trans m4)
          have X4 := Lib.hid (XA.out.mod m4 (by have := HBM.out; omega))
          have y0 := X4.out.cell 0
          clear v4 m4 x0 x2 x3 v5
          go_wp2_with (at_builtin; refine app1 (base := w2.heap.size) rfl (.tmp 61) (.tmp 64) 41 3 1 rfl Try.underlying41 infoInt rfl (by decide) _ _ _ _ 1 [.int .i64 x] (by have := M4.out.size; simp; omega) (O4.out.alloc _) rfl rfl (sl_new w4 #[.int .i64 x] 3) (by simp [Value.oneCell']) (by decide) (by omega) ?_; intro v' w' g1 g2 g3; have G1 := Lib.hid g1; have G2 := Lib.hid (((Mod.refl _ w4).alloc (.cells #[.int .i64 x] 3)).trans g2); have hog := own_ge O4.out; clear g1 g2 g3)
          refine ⟨⟨k + 1, by go_num, by omega, ?_, ?_, M4.out.also G2.out (fun i h => .inr (hog i h))⟩, by simp [intOf]; omega⟩
          · show World.ownsRow _ _ _ _ _ _ _
            rw [HTK.out, HFN.out, FT.out, if_pos rfl, intL_append, List.length_append]
            exact G1.out
          · show VW _ _ _ _ _ _
            rw [HTK.out, HSN.out, ← HDR.out]
            unfold tick1
            rw [GT.out, FT.out]
            have := V4.out.mod G2.out (fun h => by have := hog _ h; have := HBW.out; omega) (fun h => by have := hog _ h; have := HBW.out; omega)
            simpa using this
        · have FT : Hid (fell now pat (x, ⟨rs, ru, rb⟩) = false) := by
            show _ = _
            rw [HF.out, Bool.and_eq_false_iff, decide_eq_false_iff_not]
            by_cases e : ru = 2
            · right; intro hc; exact h2 ⟨e, hc⟩
            · left; simpa using e
          have H2 := Lib.hid h2
          clear h3 h2
          go_wp2_with fail
          all_goals first
            | (exfalso; apply H2.out; constructor <;> omega)
            | (refine ⟨⟨k + 1, by go_num, by omega, ?_, ?_, MA⟩, by simp [intOf]; omega⟩
               · show World.ownsRow _ _ _ _ _ _ _
                 rw [HTK.out, HFN.out, FT.out]
                 simpa using OA.out
               · show VW _ _ _ _ _ _
                 rw [HTK.out, HSN.out, ← HDR.out]
                 unfold tick1
                 rw [GT.out, FT.out]
                 simpa using VA.out)
    · have hkn : k = ks.length := by omega
      have h1 := hown.out
      have h2 := hV.out
      rw [hkn, List.take_length] at h1 h2
      rw [List.drop_length, List.append_nil] at h2
      have O1 := Lib.hid (h1.mono M2.out.size)
      have V1 := Lib.hid h2
      have HM := Lib.hid ((M2.out.mono (fun _ _ h => h.elim)).trans hm.out)
      clear h1 h2 hown hV hkn hm
      go_wp2_with fail
      go_ret2
      exact ⟨⟨_, rfl, O1.out⟩, V1.out, HM.out⟩
end Go.Proofs.Ytagiodagbfahpaa
