/- The reference of strikes: Good; a strike that is refused; no condition. -/
import Derived.Test.YtiabjaaamgjlnaaSrD
namespace Go.Proofs.Ytiabjaaamgjlnaa
open Go Go.RowKit

theorem owns_set {w : World} {base : Nat} {e : TypeId} {size g n cap : Nat} {xs : List Value} (h : w.ownsRow base e size (.slice (some ⟨g, 0, none⟩) n cap) n xs) (j : Nat) (u : Value) (_ : j < n * size) : (w.setCell ⟨g, j, none⟩ u).ownsRow base e size (.slice (some ⟨g, 0, none⟩) n cap) n (xs.set j u) := by
  obtain ⟨h1, h2 | ⟨g', cap', cur, hv, hg, hh, h3, h4, h5, h6⟩⟩ := h
  · cases h2.1
  · cases hv
    refine ⟨by simpa using h1, .inr ⟨g, cap, cur.setIfInBounds j u, rfl, hg, Blk.set hh j u, h3, h4, by simpa using h5, ?_⟩⟩
    rw [Array.toList_setIfInBounds, ← h6, List.take_set]
theorem recL_set : ∀ (ks : List (Int × Rc)) (i j : Nat) (x : Int) (r r' : Rc) (u : Value), ks[i]? = some (x, r) → j < 4 → (recC (x, r)).set j u = recC (x, r') → (recL ks).set (i * 4 + j) u = recL (ks.set i (x, r'))
  | [], _, _, _, _, _, _, h, _, _ => by simp at h
  | q :: t, 0, j, x, r, r', u, h, hj, he => by
    simp at h
    subst h
    rw [recL_cons, List.set_cons_zero, recL_cons, ← he, Nat.zero_mul, Nat.zero_add, List.set_append_left _ _ (by simp; omega)]
  | q :: t, i + 1, j, x, r, r', u, h, hj, he => by
    rw [recL_cons, List.set_cons_succ, recL_cons, List.set_append_right _ _ (by simp; omega), ← recL_set t i j x r r' u (by simpa using h) hj he]
    congr 2
    simp
    omega
theorem put_at {ks : List (Int × Rc)} (hr : Rising ks) {i : Nat} {id : Int} {r : Rc} (h : ks[i]? = some (id, r)) (r' : Rc) : putL ks id r' = ks.set i (id, r') := by
  have hi := (List.getElem?_eq_some_iff.1 h).1
  unfold putL
  rw [del_at hr h]
  have hlow : ∀ (j : Nat) (q : Int × Rc), j < i → ks[j]? = some q → q.1 < id := by
    intro j q hj hq
    have hj' := (List.getElem?_eq_some_iff.1 hq).1
    have := List.pairwise_iff_getElem.1 hr j i hj' hi hj
    rw [(List.getElem?_eq_some_iff.1 hq).2, (List.getElem?_eq_some_iff.1 h).2] at this
    exact this
  have hhigh : ∀ (j : Nat) (q : Int × Rc), i < j → ks[j]? = some q → id < q.1 := by
    intro j q hj hq
    have hj' := (List.getElem?_eq_some_iff.1 hq).1
    have := List.pairwise_iff_getElem.1 hr i j hi hj' hj
    rw [(List.getElem?_eq_some_iff.1 hq).2, (List.getElem?_eq_some_iff.1 h).2] at this
    exact this
  have hlt : (ks.take i).length = i := by simp; omega
  rw [ins_at (id, r') (ks.take i ++ ks.drop (i + 1)) i ?_ (by simp; omega) ?_, List.take_append_of_le_length (by omega), List.take_of_length_le (by omega), List.drop_append_of_le_length (by omega), List.drop_of_length_le (by omega), List.nil_append, List.set_eq_take_append_cons_drop, if_pos hi]
  · intro j q hj hq
    rw [List.getElem?_append_left (by omega), List.getElem?_take, if_pos hj] at hq
    exact hlow j q hj hq
  · intro q hq
    rw [List.getElem?_append_right (by omega), hlt, Nat.sub_self, List.getElem?_drop] at hq
    exact hhigh _ q (by omega) hq

set_option maxRecDepth 100000 in
set_option maxHeartbeats 2000000 in
theorem refGood (id : Int) (b base : Nat) (lim ban most : Int) (ks : List (Int × Rc)) (w : World) (h : RB w b base lim ban most ks) (hlen : ks.length ≤ 1000) (hr : Rising ks) (hs : ∀ q ∈ ks, 0 ≤ q.2.s ∧ q.2.s ≤ 1000) :
    Calls Try.prog 28 #[.pointer (some ⟨b, 0, none⟩), .int .i64 id] w fun e w' => e = .returned (.tuple #[]) ∧ RB w' b base lim ban most (goodK ks id) ∧ Mod (fun i => i = b ∨ base ≤ i) w w' := by
  obtain ⟨a, cap, _, _, _, c3, f3, he, hbk, ho, hcap⟩ := h.at
  have HF := Lib.hid (refFind id b base lim ban most ks w h hlen)
  have HR := Lib.hid hr
  have HS := Lib.hid hs
  have H := Lib.hid h
  clear h hr hs
  go_enter Try.func28, Try.ntmps28
  go_wp2_with fail
  refine HF.out.mono ?_; rintro e w' ⟨⟨v, rfl, hv⟩, rfl⟩
  rcases hv with ⟨rfl, hn⟩ | ⟨i, r, rfl, hi⟩
  · have HG : Hid (goodK ks id = ks) := by show _ = _; unfold goodK; rw [hn]
    clear hn
    go_wp2_with fail
    go_end0
    exact ⟨rfl, by rw [HG.out]; exact H.out, Mod.refl _ _⟩
  · obtain ⟨X, rfl, p0, p1, p2, p3⟩ := recEl he.out (Nat.le_refl _) hi
    obtain ⟨g, rfl⟩ : ∃ g, X = ⟨g, 0, none⟩ := by
      rcases ho.out.2 with ⟨h, _⟩ | ⟨g, c, cur, h, _⟩
      · cases h
      · cases h; exact ⟨g, rfl⟩
    have hg := ho.out.lt g rfl
    rw [add_g] at p0 p1 p2 p3
    obtain ⟨s, u, bb⟩ := r
    dsimp only at p0 p1 p2 p3
    have hil : (i : Int) < ks.length := by have := (List.getElem?_eq_some_iff.1 hi).1; omega
    have hil2 : i < ks.length := by omega
    have hlk := lk_of_mem HR.out (List.mem_of_getElem? hi)
    have hss := HS.out _ (List.mem_of_getElem? hi)
    dsimp only at hss
    by_cases hu : u = 0
    · have hu' : (u == 0) = true := by simpa using hu
      obtain ⟨s1, hs1⟩ : ∃ s1, s1 = max (s - 1) 0 := ⟨_, rfl⟩
      have HG : Hid (goodK ks id = ks.set i (id, ⟨s1, u, bb⟩)) := by
        show _ = _; unfold goodK; rw [hlk]; dsimp only; rw [if_pos hu, hs1]
        exact put_at HR.out hi _
      have HRS : Hid ((recL ks).set (i * 4 + 1) (.int .i64 s1) = recL (ks.set i (id, ⟨s1, u, bb⟩))) := recL_set ks i 1 id ⟨s, u, bb⟩ ⟨s1, u, bb⟩ (.int .i64 s1) hi (by decide) rfl
      have hfz : w.frozen? ⟨g, i * 4 + 1, none⟩ = false := by
        rcases ho.out.2 with ⟨h, _⟩ | ⟨g', c, cur, h, _, hh, _⟩
        · cases h
        · cases h; exact Blk.frozen hh _
      have hwr : IntKind.i64.wrap (s - 1) = s - 1 := by unfold IntKind.wrap; simp [IntKind.bits, IntKind.signed]; omega
      have HS1 := Lib.hid hs1
      have HU := Lib.hid hu
      clear hi hlk hs1 hu
      go_wp2_with fail
      refine wp_region2 [] [] (by kernel_rfl) (by kernel_rfl) ?_
      repeat (first | (refine reg_anyT (by rfl) (fun K hK => ?_); go_simp; refine hK _ _ ?_; clear hK K) | (refine reg_read (by rfl) (fun K hK => ?_); go_simp; refine hK _ _ ?_; clear hK K))
      rw [← HS1.out]
      refine reg_eff (by rfl) (fun rn K hK => ?_); go_simp; refine hK _ _ ?_; clear hK K
      repeat (first | (refine reg_anyT (by rfl) (fun K hK => ?_); go_simp; refine hK _ _ ?_; clear hK K) | (refine reg_read (by rfl) (fun K hK => ?_); go_simp; refine hK _ _ ?_; clear hK K))
      refine reg_nil (fun nd => ?_)
      go_wp2_with fail
      go_end0
      refine ⟨rfl, ?_, ?_⟩
      · rw [HG.out]
        refine ⟨H.out.lt, some ⟨g, 0, none⟩, cap, ?_, ?_⟩
        · rw [List.length_set]
          exact (show Blk (w.drewN _) b _ _ from hbk.out).setOther (p := ⟨g, i * 4 + 1, none⟩) (by have := H.out.lt; show g ≠ b; omega) _
        · rw [List.length_set, ← HRS.out]
          exact owns_set (show (w.drewN _).ownsRow base TKn 4 _ _ _ from ho.out) (i * 4 + 1) _ (by omega)
      · exact (((Mod.refl (fun i => i = b ∨ base ≤ i) w).drewN _).setCell (p := ⟨g, i * 4 + 1, none⟩) (.inl (.inr hg.1)) _).drewN _
    · have hu' : (u == 0) = false := by simpa using hu
      have HG : Hid (goodK ks id = ks) := by show _ = _; unfold goodK; rw [hlk]; dsimp only; rw [if_neg hu]
      clear hi hlk hu
      go_wp2_with fail
      go_end0
      exact ⟨rfl, by rw [HG.out]; exact H.out, Mod.refl _ _⟩

set_option maxRecDepth 100000 in
set_option maxHeartbeats 1000000 in
theorem refStrikeNo (id now by' : Int) (b base : Nat) (lim ban most : Int) (ks : List (Int × Rc)) (w : World) (hi : 1 ≤ id) (hi2 : id ≤ 65536) (hn : 0 ≤ now) (hn2 : now ≤ 1099511627776) (hb : 0 ≤ by') (hb2 : by' ≤ 1048576) (h : RB w b base lim ban most ks) (hlen : ks.length ≤ 1000) (hr : Rising ks) (hnb : bnd ks id now = true) :
    Calls Try.prog 27 #[.pointer (some ⟨b, 0, none⟩), .int .i64 id, .int .i64 now, .int .i64 by'] w fun e w' => e = .returned (.tuple #[.bool false, .int .i64 9]) ∧ w = w' := by
  have e1 : (decide (1 ≤ id) && decide (id ≤ 65536)) = true := by simp [hi, hi2]
  have e2 : (decide (0 ≤ now) && decide (now ≤ 1099511627776)) = true := by simp [hn, hn2]
  have g1 : ¬ by' < 0 := by omega
  have g2 : ¬ 1048576 < by' := by omega
  have HB := Lib.hid h
  have HR := Lib.hid hr
  clear h hr
  go_enter Try.func27, Try.ntmps27
  go_wp2_with fail
  refine (refId _ _).mono ?_; rw [e1]; rintro e w' ⟨rfl, rfl⟩
  go_wp2_with fail
  refine (refMoment _ _).mono ?_; rw [e2]; rintro e w' ⟨rfl, rfl⟩
  go_wp2_with fail
  refine (refBanned _ _ _ _ _ _ _ _ _ HB.out hlen HR.out).mono ?_; rw [hnb]; rintro e w' ⟨rfl, rfl⟩
  go_wp2_with fail
  go_ret2
  exact ⟨rfl, rfl⟩

/-- May there be such a strike? -/
def StrOk (id now by' : Int) : Prop := 1 ≤ id ∧ id ≤ 65536 ∧ 0 ≤ now ∧ now ≤ 1099511627776 ∧ 0 ≤ by' ∧ by' ≤ 1048576
instance (a b c : Int) : Decidable (StrOk a b c) := by unfold StrOk; infer_instance
set_option maxRecDepth 100000 in
set_option maxHeartbeats 1000000 in
theorem refStrikeBad (id now by' : Int) (b : Nat) (w : World) (h : ¬ StrOk id now by') :
    Calls Try.prog 27 #[.pointer (some ⟨b, 0, none⟩), .int .i64 id, .int .i64 now, .int .i64 by'] w fun e w' => e = .returned (.tuple #[.bool false, .int .i64 1]) ∧ w = w' := by
  obtain ⟨B1, h1⟩ : ∃ B1, B1 = (decide (1 ≤ id) && decide (id ≤ 65536)) := ⟨_, rfl⟩
  obtain ⟨B2, h2⟩ : ∃ B2, B2 = (decide (0 ≤ now) && decide (now ≤ 1099511627776)) := ⟨_, rfl⟩
  have hx : B1 = false ∨ B2 = false ∨ by' < 0 ∨ 1048576 < by' := by
    by_cases g1 : 1 ≤ id ∧ id ≤ 65536
    · by_cases g2 : 0 ≤ now ∧ now ≤ 1099511627776
      · right; right
        unfold StrOk at h
        omega
      · right; left
        rw [h2, Bool.and_eq_false_iff, decide_eq_false_iff_not, decide_eq_false_iff_not]; omega
    · left
      rw [h1, Bool.and_eq_false_iff, decide_eq_false_iff_not, decide_eq_false_iff_not]; omega
  have HX := Lib.hid hx
  have H1 := Lib.hid h1
  have H2 := Lib.hid h2
  clear h h1 h2 hx
  go_enter Try.func27, Try.ntmps27
  go_wp2_with fail
  refine (refId _ _).mono ?_; rw [← H1.out]; rintro e w' ⟨rfl, rfl⟩
  go_wp2_with fail
  refine (refMoment _ _).mono ?_; rw [← H2.out]; rintro e w' ⟨rfl, rfl⟩
  rcases HX.out with rfl | rfl | g | g
  · go_wp2_with fail
    all_goals (go_ret2; exact ⟨rfl, rfl⟩)
  · cases B1 with
    | true =>
      go_wp2_with fail
      all_goals (go_ret2; exact ⟨rfl, rfl⟩)
    | false =>
      go_wp2_with fail
      all_goals (go_ret2; exact ⟨rfl, rfl⟩)
  · cases B1 with
    | true =>
      cases B2 with
      | true =>
        go_wp2_with fail
        all_goals (go_ret2; exact ⟨rfl, rfl⟩)
      | false =>
        go_wp2_with fail
        all_goals (go_ret2; exact ⟨rfl, rfl⟩)
    | false =>
      go_wp2_with fail
      all_goals (go_ret2; exact ⟨rfl, rfl⟩)
  · have g2 : decide (by' < 0) = false := by simp; omega
    cases B1 with
    | true =>
      cases B2 with
      | true =>
        go_wp2_with fail
        all_goals (go_ret2; exact ⟨rfl, rfl⟩)
      | false =>
        go_wp2_with fail
        all_goals (go_ret2; exact ⟨rfl, rfl⟩)
    | false =>
      go_wp2_with fail
      all_goals (go_ret2; exact ⟨rfl, rfl⟩)

set_option maxRecDepth 100000 in
set_option maxHeartbeats 1000000 in
theorem strStrikeBad (id now by' : Int) (b : Nat) (w : World) (h : ¬ StrOk id now by') :
    Calls Try.prog 10 #[.pointer (some ⟨b, 0, none⟩), .int .i64 id, .int .i64 now, .int .i64 by'] w fun e w' => e = .returned (.tuple #[.bool false, .int .i64 1]) ∧ w = w' := by
  by_cases g1 : 1 ≤ id ∧ id ≤ 65536
  · have e1 : (decide (1 ≤ id) && decide (id ≤ 65536)) = true := by simp [g1.1, g1.2]
    by_cases g2 : 0 ≤ now ∧ now ≤ 1099511627776
    · have e2 : (decide (0 ≤ now) && decide (now ≤ 1099511627776)) = true := by simp [g2.1, g2.2]
      have e3 : (decide (0 ≤ by') && decide (by' ≤ 1048576)) = false := by
        unfold StrOk at h
        rw [Bool.and_eq_false_iff, decide_eq_false_iff_not, decide_eq_false_iff_not]; omega
      clear h g1 g2
      go_enter Try.func10, Try.ntmps10
      go_wp2_with fail
      refine (strWithin _ _ _ _).mono ?_; rw [e1]; rintro e w' ⟨rfl, rfl⟩
      go_wp2_with fail
      refine (strWithin _ _ _ _).mono ?_; rw [e2]; rintro e w' ⟨rfl, rfl⟩
      go_wp2_with fail
      refine (strWithin _ _ _ _).mono ?_; rw [e3]; rintro e w' ⟨rfl, rfl⟩
      go_wp2_with fail
      go_ret2
      exact ⟨rfl, rfl⟩
    · have e2 : (decide (0 ≤ now) && decide (now ≤ 1099511627776)) = false := by
        rw [Bool.and_eq_false_iff, decide_eq_false_iff_not, decide_eq_false_iff_not]; omega
      clear h g1 g2
      go_enter Try.func10, Try.ntmps10
      go_wp2_with fail
      refine (strWithin _ _ _ _).mono ?_; rw [e1]; rintro e w' ⟨rfl, rfl⟩
      go_wp2_with fail
      refine (strWithin _ _ _ _).mono ?_; rw [e2]; rintro e w' ⟨rfl, rfl⟩
      go_wp2_with fail
      go_ret2
      exact ⟨rfl, rfl⟩
  · have e1 : (decide (1 ≤ id) && decide (id ≤ 65536)) = false := by
      rw [Bool.and_eq_false_iff, decide_eq_false_iff_not, decide_eq_false_iff_not]; omega
    clear h g1
    go_enter Try.func10, Try.ntmps10
    go_wp2_with fail
    refine (strWithin _ _ _ _).mono ?_; rw [e1]; rintro e w' ⟨rfl, rfl⟩
    go_wp2_with fail
    go_ret2
    exact ⟨rfl, rfl⟩
end Go.Proofs.Ytiabjaaamgjlnaa
