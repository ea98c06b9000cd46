/- The reference of rarest: Add, Set; no condition. -/
import Derived.Test.YtegmgflplhpacaaDoorRbB
import Derived.Deep.CutBlock
import Derived.Deep.CutRange
import Derived.Deep.QuietTactic
import Derived.BigQuiet
namespace Go.Proofs.YtegmgflplhpacaaDoor
open Go Go.RowKit

theorem ins_at {α : Type} (x : Int × α) : ∀ (ks : List (Int × α)) (k : Nat), (∀ (j : Nat) (q : Int × α), j < k → ks[j]? = some q → q.1 < x.1) → k ≤ ks.length → (∀ q, ks[k]? = some q → x.1 < q.1) → insS x ks = ks.take k ++ x :: ks.drop k
  | [], k, _, hk, _ => by simp at hk; subst hk; rfl
  | y :: t, 0, _, _, h2 => by
    have := h2 y rfl
    unfold insS
    rw [if_pos this]
    rfl
  | y :: t, k + 1, h1, hk, h2 => by
    have := h1 0 y (by omega) rfl
    unfold insS
    rw [if_neg (by omega), ins_at x t k (fun j q hj hq => h1 (j + 1) q (by omega) (by simpa using hq)) (by simpa using hk) (fun q hq => h2 q (by simpa using hq))]
    rfl
theorem put_at {α : Type} {ks : List (Int × α)} (hr : Rising ks) {i : Nat} {id : Int} {r : α} (h : ks[i]? = some (id, r)) (r' : α) : putL ks id r' = ks.set i (id, r') := by
  have hi := (List.getElem?_eq_some_iff.1 h).1
  unfold putL
  rw [del_at hr h]
  have hlow : ∀ (j : Nat) (q : Int × α), j < i → ks[j]? = some q → q.1 < id := by
    intro j q hj hq
    have hj' := (List.getElem?_eq_some_iff.1 hq).1
    have := List.pairwise_iff_getElem.1 hr j i hj' hi hj
    rw [(List.getElem?_eq_some_iff.1 hq).2, (List.getElem?_eq_some_iff.1 h).2] at this
    exact this
  have hhigh : ∀ (j : Nat) (q : Int × α), i < j → ks[j]? = some q → id < q.1 := by
    intro j q hj hq
    have hj' := (List.getElem?_eq_some_iff.1 hq).1
    have := List.pairwise_iff_getElem.1 hr i j hi hj' hj
    rw [(List.getElem?_eq_some_iff.1 hq).2, (List.getElem?_eq_some_iff.1 h).2] at this
    exact this
  have hlt : (ks.take i).length = i := by simp; omega
  rw [ins_at (id, r') (ks.take i ++ ks.drop (i + 1)) i ?_ (by simp; omega) ?_, List.take_append_of_le_length (by omega), List.take_of_length_le (by omega), List.drop_append_of_le_length (by omega), List.drop_of_length_le (by omega), List.nil_append, List.set_eq_take_append_cons_drop, if_pos hi]
  · intro j q hj hq
    rw [List.getElem?_append_left (by omega), List.getElem?_take, if_pos hj] at hq
    exact hlow j q hj hq
  · intro q hq
    rw [List.getElem?_append_right (by omega), hlt, Nat.sub_self, List.getElem?_drop] at hq
    exact hhigh _ q (by omega) hq
theorem owns_off {w w' : World} {base B : Nat} {e : TypeId} {size : Nat} {u : Value} {n : Nat} {xs : List Value} (h : w.ownsRow base e size u n xs) (hm : Mod (· = B) w w') (hB : u.ownBlock ≠ some B) : w'.ownsRow base e size u n xs := by
  refine owns_apart (v := .slice (some ⟨B, 0, none⟩) 0 0) h (hm.mono fun k _ e => ?_) fun k h1 h2 => hB ?_
  · show (Value.slice (some ⟨B, 0, none⟩) 0 0).ownBlock = some k
    rw [e]
    rfl
  · have : B = k := by simpa [Value.ownBlock] using h1
    rw [this]
    exact h2
theorem idx_eq {α : Type} {ks : List (Int × α)} (hr : Rising ks) {i j : Nat} {x : Int} {r r' : α} (h1 : ks[i]? = some (x, r)) (h2 : ks[j]? = some (x, r')) : i = j := by
  obtain ⟨hi, e1⟩ := List.getElem?_eq_some_iff.1 h1
  obtain ⟨hj, e2⟩ := List.getElem?_eq_some_iff.1 h2
  have hp := List.pairwise_iff_getElem.1 hr
  rcases Nat.lt_trichotomy i j with h | h | h
  · have := hp i j hi hj h
    rw [e1, e2] at this
    simp at this
  · exact h
  · have := hp j i hj hi h
    rw [e1, e2] at this
    simp at this
theorem refRFindAt (id : Int) (i : Nat) (r : Rp) (b base n : Nat) (most : Int) (ks : List (Int × Rp)) (w : World) (h : RD w b base n most ks) (hr : Rising ks) (hlen : ks.length ≤ 1000) (hi : ks[i]? = some (id, r)) :
    Calls Tryd.prog 46 #[.pointer (some ⟨b, 0, none⟩), .int .i64 id] w fun e w' => e = .returned (.int .i64 i) ∧ w = w' := by
  refine (refRFind id b base n most ks w h hlen).mono ?_
  rintro e w' ⟨⟨v, rfl, hv⟩, rfl⟩
  rcases hv with ⟨rfl, hn⟩ | ⟨j, r', rfl, hj⟩
  · rw [lk_of_mem hr (List.mem_of_getElem? hi)] at hn
    cases hn
  · rw [idx_eq hr hi hj]
    exact ⟨rfl, rfl⟩
theorem refRFindNo (id : Int) (b base n : Nat) (most : Int) (ks : List (Int × Rp)) (w : World) (h : RD w b base n most ks) (hr : Rising ks) (hlen : ks.length ≤ 1000) (hy : lkL ks id = none) :
    Calls Tryd.prog 46 #[.pointer (some ⟨b, 0, none⟩), .int .i64 id] w fun e w' => e = .returned (.int .i64 (-1)) ∧ w = w' := by
  refine (refRFind id b base n most ks w h hlen).mono ?_
  rintro e w' ⟨⟨v, rfl, hv⟩, rfl⟩
  rcases hv with ⟨rfl, hn⟩ | ⟨j, r', rfl, hj⟩
  · exact ⟨rfl, rfl⟩
  · rw [lk_of_mem hr (List.mem_of_getElem? hj)] at hy
    cases hy

theorem hvL_same {n : Nat} {r r' : Rp} {x : Int} (hg : r'.g = r.g) (hc : r'.cap = r.cap) : ∀ {ks : List (Int × Rp)} {i : Nat}, ks[i]? = some (x, r) → hvL n (ks.set i (x, r')) = hvL n ks
  | [], i, h => by simp at h
  | y :: t, 0, h => by
    simp at h
    subst h
    rw [List.set_cons_zero, hvL_cons, hvL_cons]
    simp [hg, hc]
  | y :: t, i + 1, h => by
    rw [List.set_cons_succ, hvL_cons, hvL_cons, hvL_same hg hc (by simpa using h)]
theorem boo_set {n : Nat} {f : Nat → Bool} {k : Nat} (hk : k < n) (one : Bool) : (booL n f).set k (.bool one) = booL n (fil f k (k + 1) one) := by
  apply List.ext_getElem?
  intro j
  rw [List.getElem?_set]
  unfold booL
  by_cases hj : j < n
  · by_cases e : k = j
    · subst e
      rw [if_pos rfl, if_pos (by simp; exact hk), List.getElem?_map, List.getElem?_range hk]
      simp [fil]
    · rw [if_neg e, List.getElem?_map, List.getElem?_map, List.getElem?_range hj]
      have : ¬ (k ≤ j ∧ j < k + 1) := by omega
      simp [fil, this]
  · by_cases e : k = j
    · omega
    · rw [if_neg e, List.getElem?_eq_none (by simp; omega), List.getElem?_eq_none (by simp; omega)]
/-- Behind a store into one's places. -/
theorem RD.more {w w2 : World} {b base n : Nat} {most : Int} {ks : List (Int × Rp)} (h : RD w b base n most ks) (hr : Rising ks) {i : Nat} {id : Int} {r : Rp} {f : Nat → Bool} (hi : ks[i]? = some (id, r)) (hm : Mod (· = r.g) w w2) (h2 : w2.ownsRow base 4 1 (.slice (some ⟨r.g, 0, none⟩) n r.cap) n (booL n f)) : RD w2 b base n most (putL ks id ⟨r.g, r.cap, f⟩) := by
  obtain ⟨h1, ⟨a, cap, h3, h4, h5⟩, h6, h7⟩ := h
  have hmem := List.mem_of_getElem? hi
  have hg := (h6 _ hmem).lt r.g rfl
  rw [put_at hr hi]
  have hl : (ks.set i (id, (⟨r.g, r.cap, f⟩ : Rp))).length = ks.length := by simp
  have hgs : ∀ q ∈ ks.set i (id, (⟨r.g, r.cap, f⟩ : Rp)), q = (id, ⟨r.g, r.cap, f⟩) ∨ ∃ j, j ≠ i ∧ ks[j]? = some q := by
    intro q hq
    obtain ⟨j, hj⟩ := List.getElem?_of_mem hq
    rw [List.getElem?_set] at hj
    split at hj
    · split at hj
      · left; simpa using hj.symm
      · cases hj
    · right; rename_i hne; exact ⟨j, fun e => hne e.symm, hj⟩
  have hdist : ∀ j q, j ≠ i → ks[j]? = some q → q.2.g ≠ r.g := by
    intro j q hne hj
    obtain ⟨g1, e1⟩ := List.getElem?_eq_some_iff.1 hi
    obtain ⟨g2, e2⟩ := List.getElem?_eq_some_iff.1 hj
    have hp := List.pairwise_iff_getElem.1 h7
    rcases Nat.lt_or_ge j i with hh | hh
    · have := hp j i g2 g1 hh
      rw [e1, e2] at this
      exact this
    · have := hp i j g1 g2 (by omega)
      rw [e1, e2] at this
      exact fun e => this e.symm
  refine ⟨h1, ⟨a, cap, by rw [hl]; exact h3.mod hm (by omega), ?_, fun q hq X hX => ?_⟩, fun q hq => ?_, ?_⟩
  · rw [hl, hvL_same (r := r) (r' := ⟨r.g, r.cap, f⟩) rfl rfl hi]
    refine owns_off h4 hm fun e => ?_
    cases a with
    | none => simp [Value.ownBlock] at e
    | some X =>
      have := h5 _ hmem X rfl
      simp [Value.ownBlock] at e
      exact this e
  · rcases hgs q hq with rfl | ⟨j, _, hj⟩
    · exact h5 _ hmem X hX
    · exact h5 q (List.mem_of_getElem? hj) X hX
  · rcases hgs q hq with rfl | ⟨j, hne, hj⟩
    · exact h2
    · refine owns_off (h6 q (List.mem_of_getElem? hj)) hm fun e => ?_
      simp [Value.ownBlock] at e
      exact hdist j q hne hj e
  · rw [List.pairwise_iff_getElem] at h7 ⊢
    intro x y hx hy hxy
    have hx' : x < ks.length := by simpa using hx
    have hy' : y < ks.length := by simpa using hy
    have := h7 x y hx' hy' hxy
    obtain ⟨g1, e1⟩ := List.getElem?_eq_some_iff.1 hi
    rw [List.getElem_set, List.getElem_set]
    split
    · rename_i ex
      subst ex
      rw [if_neg (by omega)]
      rw [e1] at this
      exact this
    · split
      · rename_i ey
        subst ey
        rw [e1] at this
        exact this
      · exact this

set_option maxRecDepth 100000 in
set_option maxHeartbeats 1000000 in
theorem refRAddNo (id k : Int) (b base n : Nat) (most : Int) (ks : List (Int × Rp)) (w : World) (h : RD w b base n most ks) (hlen : ks.length ≤ 1000) (hr : Rising ks) (hy : lkL ks id = none) :
    Calls Tryd.prog 40 #[.pointer (some ⟨b, 0, none⟩), .int .i64 id, .int .i64 k] w fun e w' => e = .returned (.int .i64 4) ∧ w = w' := by
  have HF := Lib.hid (refRFindNo id b base n most ks w h hr hlen hy)
  clear h hr hy
  go_enter Tryd.func40, Tryd.ntmps40
  go_wp2_with fail
  refine HF.out.mono ?_; rintro e w' ⟨rfl, rfl⟩
  go_wp2_with fail
  go_ret
  exact ⟨rfl, rfl⟩
set_option maxRecDepth 100000 in
set_option maxHeartbeats 1000000 in
theorem refRAddBad (id k : Int) (i : Nat) (r : Rp) (b base n : Nat) (most : Int) (ks : List (Int × Rp)) (w : World) (h : RD w b base n most ks) (hlen : ks.length ≤ 1000) (hr : Rising ks) (hi : ks[i]? = some (id, r)) (hk : k < 0 ∨ n ≤ k) :
    Calls Tryd.prog 40 #[.pointer (some ⟨b, 0, none⟩), .int .i64 id, .int .i64 k] w fun e w' => e = .returned (.int .i64 1) ∧ w = w' := by
  have HF := Lib.hid (refRFindAt id i r b base n most ks w h hr hlen hi)
  obtain ⟨a, cap, c0, _, c2, _, _, _, _, _⟩ := h.at
  have hi1 : decide ((i : Int) < 0) = false := by simp
  clear h hr hi
  by_cases h1 : k < 0
  · go_enter Tryd.func40, Tryd.ntmps40
    go_wp2_with fail
    refine HF.out.mono ?_; rintro e w' ⟨rfl, rfl⟩
    go_wp2_with fail
    go_ret
    exact ⟨rfl, rfl⟩
  · have h2 : (n : Int) ≤ k := by omega
    go_enter Tryd.func40, Tryd.ntmps40
    go_wp2_with fail
    refine HF.out.mono ?_; rintro e w' ⟨rfl, rfl⟩
    go_wp2_with fail
    go_ret
    exact ⟨rfl, rfl⟩
set_option maxRecDepth 100000 in
set_option maxHeartbeats 1000000 in
theorem refRAdd (id : Int) (k i : Nat) (r : Rp) (b base n : Nat) (most : Int) (ks : List (Int × Rp)) (w : World) (h : RD w b base n most ks) (hlen : ks.length ≤ 1000) (hr : Rising ks) (hi : ks[i]? = some (id, r)) (hk : k < n) :
    Calls Tryd.prog 40 #[.pointer (some ⟨b, 0, none⟩), .int .i64 id, .int .i64 k] w fun e w' => e = .returned (.int .i64 0) ∧ StepR n b base most ks (putL ks id ⟨r.g, r.cap, fil r.f k (k + 1) true⟩) w w' := by
  have HF := Lib.hid (refRFindAt id i r b base n most ks w h hr hlen hi)
  obtain ⟨a, cap, c0, _, c2, he, _, _, _, _⟩ := h.at
  obtain ⟨X, rfl, p0, p1⟩ := hvEl he.out (Nat.le_refl _) hi
  dsimp only at p0 p1
  have hi1 : decide ((i : Int) < 0) = false := by simp
  have hil2 : i < ks.length := (List.getElem?_eq_some_iff.1 hi).1
  have hil : (i : Int) < ks.length := by omega
  have hkn : (k : Int) < n := by omega
  have hk0 : decide ((k : Int) < 0) = false := by simp
  have hs := h.sets _ (List.mem_of_getElem? hi)
  obtain ⟨b0, b1⟩ := boo_at hs hk
  dsimp only at b0 b1 hs
  have hm := (Mod.refl (· = r.g) w).set1 k (.bool true)
  have hst := (hs.stored k (.bool true)).1
  rw [boo_set hk] at hst
  have HN := Lib.hid (h.more hr hi hm hst)
  have HM := Lib.hid (hm.mono (S' := RDb w b ks) (fun i _ e => .inr (.inr ⟨_, List.mem_of_getElem? hi, e⟩)))
  have HBD : Hid (∀ q, RDb (w.setCell ⟨r.g, k, none⟩ (.bool true)) b (putL ks id ⟨r.g, r.cap, fil r.f k (k + 1) true⟩) q → RDb w b ks q ∨ w.heap.size ≤ q) := by
    intro q hq
    have hgb : b ≠ r.g := by have := h.lt; have := (hs.lt r.g rfl).1; omega
    rcases hq with e | ⟨X', m, c, hx, e⟩ | ⟨q', hq', e⟩
    · exact .inl (.inl e)
    · have hc := hm.cell c2 (show ¬ b = r.g from hgb)
      rw [hc] at hx
      exact .inl (.inr (.inl ⟨X', m, c, by rw [c2]; exact hx, e⟩))
    · rcases mem_putO hq' with rfl | hq'
      · exact .inl (.inr (.inr ⟨_, List.mem_of_getElem? hi, e⟩))
      · exact .inl (.inr (.inr ⟨q', hq', e⟩))
  clear h hr hi hs hm hst
  go_enter Tryd.func40, Tryd.ntmps40
  go_wp2_with fail
  refine HF.out.mono ?_; rintro e w' ⟨rfl, rfl⟩
  go_wp2_with fail
  go_ret
  exact ⟨rfl, HN.out, HM.out, HBD.out⟩
end Go.Proofs.YtegmgflplhpacaaDoor
