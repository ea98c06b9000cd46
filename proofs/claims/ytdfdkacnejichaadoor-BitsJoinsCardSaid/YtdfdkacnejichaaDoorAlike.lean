/- SameInts of the reference; alike of the laws on bits; no condition but the library's table. -/
import Derived.Test.YtdfdkacnejichaaDoorRuns
import Derived.Test.YtdfdkacnejichaaDoorBitsX
import Derived.Test.YtdfdkacnejichaaDoorBitsR2
namespace Go.Proofs.YtdfdkacnejichaaDoor
open Go Go.RowKit Go.IntWalk

theorem strB {w : World} {v : Value} {m : Nat} {bs : List Nat} (h : Sl w v 1 m (byts bs)) : (convert 36 9 v).run Tryd.prog w = .ok (.string (strOf bs)) w :=
  str_conv w _ _ 5 (by kernel_rfl) (by kernel_rfl) (by kernel_rfl) _ m _ h
theorem Sl.ex {w w' : World} {v : Value} {size n : Nat} {xs : List Value} (h : Sl w v size n xs) (hx : Ex w w') : Sl w' v size n xs := h.keep fun _ _ hp _ => hx.cell hp
theorem Sl.form {w : World} {v : Value} {size n : Nat} {xs : List Value} (h : Sl w v size n xs) : ∃ a c, v = .slice a n c ∧ ∀ j u, xs[j]? = some u → ∃ x, a = some x ∧ w.cell? (x.add j) = some u := by
  rcases h with ⟨rfl, rfl, rfl⟩ | ⟨x, c, rfl, _, h2⟩
  · exact ⟨none, 0, rfl, fun j u h => by simp at h⟩
  · exact ⟨some x, c, rfl, fun j u h => ⟨x, rfl, h2 j u h⟩⟩

set_option maxRecDepth 100000 in
set_option maxHeartbeats 1000000 in
theorem sameIntsEq (va vb : Value) (xs : List Int) (n : Nat) (hn : n = xs.length) (hn9 : n ≤ 9223372036854775807) (w : World) (ha : Sl w va 1 n (intL xs)) (hb : Sl w vb 1 n (intL xs)) :
    Calls Tryd.prog 34 #[va, vb] w fun e w' => e = .returned (.bool true) ∧ ∃ k, w' = w.drewN k := by
  obtain ⟨a, ca, rfl, fa⟩ := ha.form
  obtain ⟨b, cb, rfl, fb⟩ := hb.form
  have HA := Lib.hid fa
  have HB := Lib.hid fb
  have HN := Lib.hid hn
  clear ha hb hn fa fb
  go_enter Tryd.func34, Tryd.ntmps34
  go_wp2_with fail
  go_loopw [5] (fun i wr => ∃ k : Nat, i = .int .i64 k ∧ k ≤ n ∧ Hid (∃ m, wr = w.drewN m)) (fun i _ => n - (intOf i).toNat)
  case atStart => exact ⟨0, rfl, Nat.zero_le _, 0, rfl⟩
  case round =>
    obtain ⟨k, rfl, hk, ⟨m, rfl⟩⟩ := hrel
    by_cases hlt : (k : Int) < n
    · have hkn : k < n := by omega
      obtain ⟨u, hu⟩ : ∃ u, xs[k]? = some u := ⟨_, List.getElem?_eq_getElem (by rw [← HN.out]; exact hkn)⟩
      obtain ⟨x, rfl, c1⟩ := HA.out k (.int .i64 u) (by simp [intL, hu])
      obtain ⟨y, rfl, c2⟩ := HB.out k (.int .i64 u) (by simp [intL, hu])
      clear hu
      go_wp2_with fail
      go_quiet (fail)
      go_wp2_with fail
      go_roundw
      case rel => exact ⟨k + 1, by go_num, by omega, ⟨_, rfl⟩⟩
      case measure => simp [intOf]; omega
    · go_wp2_with fail
      go_ret
      exact ⟨rfl, _, rfl⟩

theorem runs_len (f : Nat → Bool) (n : Nat) : (runsOf f n).length ≤ 2 * n + 2 := by
  have key : ∀ m k one, (rl f n m k one).length ≤ m := by
    intro m
    induction m with
    | zero => intro k one; exact Nat.le_refl _
    | succ m ih =>
      intro k one
      show (if k < n then _ else _ : List Int).length ≤ _
      split
      · simpa using ih _ _
      · simp
  exact key _ _ _

set_option maxRecDepth 100000 in
set_option maxHeartbeats 2000000 in
theorem alikeTwo (b g b' g' n : Nat) (f : Nat → Bool) (w : World) (h : Two w b g b' g' n f) (hT : TabW w) :
    Calls Tryd.prog 19 #[.pointer (some ⟨b, 0, none⟩), .pointer (some ⟨b', 0, none⟩)] w fun e w' => e = .returned (.bool true) ∧ Mod (fun _ => False) w w' := by
  have H := Lib.hid h
  have HT := Lib.hid hT
  have hsm := h.s.small
  have hrl := runs_len f n
  clear h hT
  go_enter Tryd.func19, Tryd.ntmps19
  go_wp2_with fail
  refine (bitsRuns _ _ _ _ _ H.out.s HT.out).mono ?_; rintro e w1 ⟨v1, rfl, o1, m1⟩
  have H1 := Lib.hid (H.out.new m1)
  go_wp2_with fail
  refine (refRuns _ _ _ _ _ H1.out.r).mono ?_; rintro e w2 ⟨v2, rfl, o2, m2⟩
  have H2 := Lib.hid (H1.out.new m2)
  have hs1 : Sl w2 v1 1 (runsOf f n).length (intL (runsOf f n)) := o1.sl.mod m2 (fun _ _ _ _ h => h)
  have HS1 := Lib.hid hs1
  have HS2 := Lib.hid o2.sl
  have m12 := m1.trans m2
  clear o1 o2 m1 m2 hs1
  go_wp2_with fail
  refine (sameIntsEq v1 v2 _ _ rfl (by omega) _ HS1.out HS2.out).mono ?_; rintro e w3 ⟨rfl, kd, rfl⟩
  have H3 := Lib.hid (H2.out.drewN kd)
  have m13 := m12.drewN kd
  generalize w2.drewN kd = w3 at H3 m13 ⊢
  clear H2 H1 HS1 HS2 m12
  go_wp2_with fail
  refine wp_region2 [(3, 4), (4, 3), (6, 4)] [15, 37, 38] (by kernel_rfl) (by kernel_rfl) ?_
  repeat (first | (refine reg_anyT (by rfl) (fun K hK => ?_); go_simp; refine hK _ _ ?_; clear hK K) | (refine reg_read (by rfl) (fun K hK => ?_); go_simp; refine hK _ _ ?_; clear hK K))
  refine reg_new (by rfl) (fun rn K hK => ?_); go_simp
  refine (bitsBytes _ _ _ _ _ (H3.out.drewN rn).s.toBRaw).mono ?_; rintro e w5 ⟨rfl, y1, y2, y3⟩
  refine hK _ _ ⟨y2.ex, ?_⟩; clear hK K
  repeat (first | (refine reg_anyT (by rfl) (fun K hK => ?_); go_simp; refine hK _ _ ?_; clear hK K) | (refine reg_read (by rfl) (fun K hK => ?_); go_simp; refine hK _ _ ?_; clear hK K))
  refine reg_hold_v (by rfl) (by rfl) (.string (strOf (bytesOf f n))) (fun w' hw' => q_conv _ _ _ rfl (strB (y1.ex hw'))) ?_
  repeat (first | (refine reg_anyT (by rfl) (fun K hK => ?_); go_simp; refine hK _ _ ?_; clear hK K) | (refine reg_read (by rfl) (fun K hK => ?_); go_simp; refine hK _ _ ?_; clear hK K))
  refine reg_new (by rfl) (fun rn K hK => ?_); go_simp
  refine (refBytes _ _ _ _ _ ((H3.out.new y2.undrew).drewN rn).r).mono ?_; rintro e w6 ⟨rfl, y4, y5, y6⟩
  refine hK _ _ ⟨y5.ex, ?_⟩; clear hK K
  repeat (first | (refine reg_anyT (by rfl) (fun K hK => ?_); go_simp; refine hK _ _ ?_; clear hK K) | (refine reg_read (by rfl) (fun K hK => ?_); go_simp; refine hK _ _ ?_; clear hK K))
  rw [bytesOf_upto _ _ H3.out.s.out] at y4
  refine reg_read_v (by rfl) (by rfl) (.string (strOf (bytesOf f n))) (fun rn => q_conv _ _ _ rfl (strB (y4.drewN rn))) ?_
  repeat (first | (refine reg_anyT (by rfl) (fun K hK => ?_); go_simp; refine hK _ _ ?_; clear hK K) | (refine reg_read (by rfl) (fun K hK => ?_); go_simp; refine hK _ _ ?_; clear hK K))
  have H6 := Lib.hid ((H3.out.new y2.undrew).new y5.undrew)
  have m6 := (m13.trans y2.undrew).trans y5.undrew
  obtain ⟨c6, d6⟩ := H6.out.r.s0
  clear y1 y2 y3 y4 y5 y6
  refine reg_read (by rfl) (fun K hK => ?_); go_simp
  refine ⟨_, fun rn => rd_same (bitsCount _ _ _ _ _ (H6.out.drewN rn).s), hK _ _ ?_⟩; clear hK K
  repeat (first | (refine reg_anyT (by rfl) (fun K hK => ?_); go_simp; refine hK _ _ ?_; clear hK K) | (refine reg_read (by rfl) (fun K hK => ?_); go_simp; refine hK _ _ ?_; clear hK K))
  refine reg_read (by rfl) (fun K hK => ?_); go_simp
  refine ⟨_, fun rn => rd_same (refCount _ _ _ _ _ (H6.out.drewN rn).r), hK _ _ ?_⟩; clear hK K
  repeat (first | (refine reg_anyT (by rfl) (fun K hK => ?_); go_simp; refine hK _ _ ?_; clear hK K) | (refine reg_read (by rfl) (fun K hK => ?_); go_simp; refine hK _ _ ?_; clear hK K))
  refine reg_read (by rfl) (fun K hK => ?_); go_simp
  refine ⟨_, fun rn => rd_same (bitsLen _ _ _ _ _ (H6.out.drewN rn).s), hK _ _ ?_⟩; clear hK K
  repeat (first | (refine reg_anyT (by rfl) (fun K hK => ?_); go_simp; refine hK _ _ ?_; clear hK K) | (refine reg_read (by rfl) (fun K hK => ?_); go_simp; refine hK _ _ ?_; clear hK K))
  refine reg_nil (fun nd => ?_)
  go_wp2_with fail
  go_ret
  exact ⟨by simp, m6.drewN _⟩
end Go.Proofs.YtdfdkacnejichaaDoor
