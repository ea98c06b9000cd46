/- The laws on strikes: what both books hold, what a step does to both; no condition. -/
import Derived.Test.YtiabjaaamgjlnaaSrE
namespace Go.Proofs.Ytiabjaaamgjlnaa
open Go Go.RowKit

set_option maxHeartbeats 1000000 in
theorem same10 (va vb : Value) (xs : List Int) (n : Nat) (w : World) (ha : Sl w va 1 n (intL xs)) (hb : Sl w vb 1 n (intL xs)) (hn : n ≤ 9007199254740992) :
    Calls Try.prog 19 #[va, vb] w fun e w' => e = .returned (.bool true) ∧ Mod (fun _ => False) w w' := by
  have hl := ha.len
  rw [List.length_map, Nat.mul_one] at hl
  have form : ∀ v, Sl w v 1 n (intL xs) → ∃ a c, v = .slice a n c ∧ ∀ i, i < n → ∃ x, a = some x ∧ w.cell? (x.add i) = some (.int .i64 (xs.getD i 0)) := by
    intro v h
    rcases h with ⟨rfl, rfl, _⟩ | ⟨x, c, rfl, _, h⟩
    · exact ⟨none, 0, rfl, fun i hi => by omega⟩
    · refine ⟨some x, c, rfl, fun i hi => ⟨x, rfl, h i _ ?_⟩⟩
      rw [List.getElem?_map, List.getD_eq_getElem?_getD, List.getElem?_eq_getElem (by omega)]; rfl
  obtain ⟨aa, ca, rfl, fa⟩ := form va ha
  obtain ⟨ab, cb, rfl, fb⟩ := form vb hb
  have FA := Lib.hid fa
  have FB := Lib.hid fb
  clear ha hb hl form fa fb
  go_enter Try.func19, Try.ntmps19
  go_wp2_with fail
  go_loopw [5] (fun i wr => ∃ k : Nat, i = .int .i64 k ∧ k ≤ n ∧ Draws w wr) (fun i _ => n - (intOf i).toNat)
  case atStart => exact ⟨0, rfl, by omega, 0, rfl⟩
  case round =>
    obtain ⟨k, rfl, hk, nd, rfl⟩ := hrel
    by_cases hlt : k < n
    · obtain ⟨xa, rfl, ga⟩ := FA.out k hlt
      obtain ⟨xb, rfl, gb⟩ := FB.out k hlt
      generalize xs.getD k 0 = z at ga gb
      have hlt' : (k : Int) < n := by omega
      go_wp2_with fail
      refine wp_region_stages0 [0, 0, 0, 1, 0, 0, 0, 1, 0] (by kernel_rfl) (by kernel_rfl) ?_
      repeat (first | (refine stage_any (fun K hK => ?_); go_simp; refine hK _ _ ?_; clear hK K) | (refine stage_pin (fun K hK => ?_); go_simp; refine hK _ _ ?_; clear hK K))
      refine stage_nil ?_
      rintro _ ⟨n2, rfl⟩
      go_wp2_with fail
      go_roundw
      case rel => exact ⟨k + 1, by go_num, by omega, _, rfl⟩
      case measure => simp [intOf]; omega
    · go_wp2_with fail
      go_ret
      exact ⟨rfl, (Mod.refl _ w).drewN nd⟩

/-- What both books hold behind n steps. -/
structure OkB (lim most : Int) (n : Nat) (ks : List (Int × Rc)) : Prop where
  rising : Rising ks
  len : (ks.length : Int) ≤ most
  each : ∀ q ∈ ks, 1 ≤ q.1 ∧ q.1 ≤ 65536 ∧ 0 ≤ q.2.s ∧ q.2.s ≤ 100 ∧ 0 ≤ q.2.u ∧ q.2.u ≤ 2199023255552 ∧ 0 ≤ q.2.b ∧ q.2.b ≤ 1048576 * n ∧ (q.2.u = 0 → q.2.s < lim)
theorem OkB.nil (lim most : Int) (h : 0 ≤ most) : OkB lim most 0 [] := ⟨List.Pairwise.nil, by simpa using h, by simp⟩
theorem OkB.more {lim most : Int} {n m : Nat} {ks : List (Int × Rc)} (h : OkB lim most n ks) (hm : n ≤ m) : OkB lim most m ks := ⟨h.rising, h.len, fun q hq => by have := h.each q hq; omega⟩
theorem OkB.filter {lim most : Int} {n : Nat} {ks : List (Int × Rc)} (h : OkB lim most n ks) (φ : Int × Rc → Bool) : OkB lim most n (ks.filter φ) :=
  ⟨h.rising.filter _, by have := List.length_filter_le φ ks; have := h.len; omega, fun q hq => h.each q (List.mem_filter.1 hq).1⟩
theorem OkB.i64 {lim most : Int} {n : Nat} {ks : List (Int × Rc)} (h : OkB lim most n ks) : ∀ q ∈ ks, I64 q.1 := fun q hq => by have := h.each q hq; exact i64_of (by omega) (by omega)
theorem OkB.rd {lim most : Int} {n : Nat} {ks : List (Int × Rc)} (h : OkB lim most n ks) (hn : n ≤ 1000000) (hl : 1 ≤ lim) (id : Int) : 0 ≤ (rd ks id).s ∧ (rd ks id).s ≤ 100 ∧ 0 ≤ (rd ks id).u ∧ (rd ks id).u ≤ 2199023255552 ∧ 0 ≤ (rd ks id).b ∧ (rd ks id).b ≤ 1048576 * n ∧ ((rd ks id).u = 0 → (rd ks id).s < lim) := by
  cases hk : lkL ks id with
  | none =>
    rw [rd_none hk]
    simp
    omega
  | some r =>
    have hr : _root_.Go.Proofs.Ytiabjaaamgjlnaa.rd ks id = r := by unfold _root_.Go.Proofs.Ytiabjaaamgjlnaa.rd; rw [hk]; rfl
    rw [hr]
    have := h.each _ (lk_some_mem hk)
    simp only at this
    omega
theorem len_put (ks : List (Int × Rc)) (id : Int) (r : Rc) : (putL ks id r).length ≤ ks.length + 1 := by
  unfold putL
  rw [length_insS]
  have : (delL ks id).length ≤ ks.length := List.length_filter_le _ _
  omega
theorem mem_put {ks : List (Int × Rc)} {id : Int} {r : Rc} {q : Int × Rc} (h : q ∈ putL ks id r) : q = (id, r) ∨ q ∈ ks := by
  unfold putL at h
  rcases mem_insS.1 h with h | h
  · exact .inl h
  · exact .inr (List.mem_filter.1 h).1
theorem firstK_mem {ks : List (Int × Rc)} (hne : ks ≠ []) (hu : OkU ks) : ∃ r, (firstK ks, r) ∈ ks := by
  obtain ⟨q, t, rfl⟩ := List.exists_cons_of_ne_nil hne
  exact ⟨_, (low_is t q hu).1⟩
theorem len_del {ks : List (Int × Rc)} (hr : Rising ks) {id : Int} {r : Rc} (h : (id, r) ∈ ks) : (delL ks id).length + 1 = ks.length := by
  obtain ⟨i, hi⟩ := List.getElem?_of_mem h
  have hl := (List.getElem?_eq_some_iff.1 hi).1
  rw [del_at hr hi]
  simp
  omega
theorem OkB.put {lim ban most : Int} {n : Nat} {ks : List (Int × Rc)} (h : OkB lim most n ks) (hn : n ≤ 1000000) (hL : BookOk lim ban most) {id now by' : Int} (hs : StrOk id now by') :
    (∀ q ∈ putL ks id (strX lim ban (_root_.Go.Proofs.Ytiabjaaamgjlnaa.rd ks id) now by'), 1 ≤ q.1 ∧ q.1 ≤ 65536 ∧ 0 ≤ q.2.s ∧ q.2.s ≤ 100 ∧ 0 ≤ q.2.u ∧ q.2.u ≤ 2199023255552 ∧ 0 ≤ q.2.b ∧ q.2.b ≤ 1048576 * ((n + 1 : Nat) : Int) ∧ (q.2.u = 0 → q.2.s < lim)) := by
  obtain ⟨l1, l2, l3, l4, l5, l6⟩ := hL
  obtain ⟨s1, s2, s3, s4, s5, s6⟩ := hs
  have hrd := h.rd hn l1 id
  intro q hq
  rcases mem_put hq with rfl | hq
  · generalize _root_.Go.Proofs.Ytiabjaaamgjlnaa.rd ks id = r at hrd
    obtain ⟨s, u, b⟩ := r
    simp only at hrd
    unfold strX
    by_cases hu : 0 < u
    · simp only [hu, if_true]
      by_cases hl : lim ≤ 0 + 1
      · simp only [hl, if_true]; omega
      · simp only [hl, if_false]; omega
    · simp only [hu, if_false]
      by_cases hl : lim ≤ s + 1
      · simp only [hl, if_true]; omega
      · simp only [hl, if_false]; omega
  · have := h.each q hq
    omega
theorem OkB.strike {lim ban most : Int} {n : Nat} {ks : List (Int × Rc)} (h : OkB lim most n ks) (hn : n ≤ 1000000) (hL : BookOk lim ban most) {id now by' : Int} (hs : StrOk id now by') : OkB lim most (n + 1) (cutX most (putL ks id (strX lim ban (_root_.Go.Proofs.Ytiabjaaamgjlnaa.rd ks id) now by'))) := by
  have he := h.put hn hL hs
  have hr := rising_put h.rising id (strX lim ban (_root_.Go.Proofs.Ytiabjaaamgjlnaa.rd ks id) now by')
  have hl := len_put ks id (strX lim ban (_root_.Go.Proofs.Ytiabjaaamgjlnaa.rd ks id) now by')
  have hne : putL ks id (strX lim ban (_root_.Go.Proofs.Ytiabjaaamgjlnaa.rd ks id) now by') ≠ [] := by
    intro e; have := congrArg List.length e; unfold putL at this; rw [length_insS] at this; simp at this
  generalize putL ks id (strX lim ban (_root_.Go.Proofs.Ytiabjaaamgjlnaa.rd ks id) now by') = k2 at *
  unfold cutX
  by_cases hm : most < (k2.length : Int)
  · rw [if_pos hm]
    refine ⟨rising_del hr _, ?_, fun q hq => he q (List.mem_filter.1 hq).1⟩
    obtain ⟨r, hmem⟩ := firstK_mem hne (fun q hq => (he q hq).2.2.2.2.1)
    have := len_del hr hmem
    have := h.len
    omega
  · rw [if_neg hm]
    exact ⟨hr, by omega, he⟩
theorem len_del_le (ks : List (Int × Rc)) (id : Int) : (delL ks id).length ≤ ks.length := List.length_filter_le _ _
theorem OkB.good {lim most : Int} {n : Nat} {ks : List (Int × Rc)} (h : OkB lim most n ks) (hl : 1 ≤ lim) (id : Int) : OkB lim most n (goodK ks id) := by
  unfold goodK
  cases hk : lkL ks id with
  | none => exact h
  | some r =>
    dsimp only
    split
    · rename_i hu
      have hm := h.each _ (lk_some_mem hk)
      have hle := len_del h.rising (lk_some_mem hk)
      refine ⟨rising_put h.rising _ _, ?_, fun q hq => ?_⟩
      · unfold putL
        rw [length_insS]
        have := h.len
        omega
      · rcases mem_put hq with rfl | hq
        · simp only at hm ⊢
          omega
        · exact h.each q hq
    · exact h

/-- A step. -/
structure St where
  d : Int
  i : Int
  n : Int
  b : Int
def strK (lim ban most : Int) (ks : List (Int × Rc)) (s : St) : List (Int × Rc) := if StrOk s.i s.n s.b ∧ bnd ks s.i s.n = false then cutX most (putL ks s.i (strX lim ban (rd ks s.i) s.n s.b)) else ks
def expK (ks : List (Int × Rc)) (now : Int) : List (Int × Rc) := if 0 ≤ now ∧ now ≤ 1099511627776 then ks.filter (fun q => !isOver now q) else ks
def stepK (lim ban most : Int) (ks : List (Int × Rc)) (s : St) : List (Int × Rc) := if s.d = 0 then strK lim ban most ks s else if s.d = 1 then goodK ks s.i else expK ks s.n
theorem OkB.step {lim ban most : Int} {n : Nat} {ks : List (Int × Rc)} (h : OkB lim most n ks) (hn : n ≤ 1000000) (hL : BookOk lim ban most) (s : St) : OkB lim most (n + 1) (stepK lim ban most ks s) := by
  unfold stepK
  split
  · unfold strK
    split
    · rename_i h1
      exact h.strike hn hL h1.1
    · exact h.more (by omega)
  · split
    · exact (h.good hL.1 s.i).more (by omega)
    · unfold expK
      split
      · exact (h.filter _).more (by omega)
      · exact h.more (by omega)

/-- Both books. -/
structure Two (w : World) (b M b' base : Nat) (lim ban most : Int) (n : Nat) (ks : List (Int × Rc)) : Prop where
  t : BK w b M lim ban most ks
  r : RB w b' base lim ban most ks
  ne : b ≠ b' ∧ M ≠ b' ∧ b < base ∧ M < base ∧ base ≤ w.heap.size
  ok : OkB lim most n ks
theorem Two.new {w w' : World} {b M b' base : Nat} {lim ban most : Int} {n : Nat} {ks : List (Int × Rc)} (h : Two w b M b' base lim ban most n ks) (hm : Mod (fun _ => False) w w') : Two w' b M b' base lim ban most n ks :=
  ⟨h.t.new hm, h.r.new hm, by have := h.ne; have := hm.size; omega, h.ok⟩
theorem Two.len {w : World} {b M b' base : Nat} {lim ban most : Int} {n : Nat} {ks : List (Int × Rc)} (h : Two w b M b' base lim ban most n ks) (hm : most ≤ 64) : ks.length ≤ 64 := by have := h.ok.len; omega
/-- What a step may turn. -/
def Turn (M b' base : Nat) : Nat → Prop := fun i => i = M ∨ i = b' ∨ base ≤ i
theorem Two.real {w w' : World} {b M b' base : Nat} {lim ban most : Int} {n : Nat} {ks l : List (Int × Rc)} (h : Two w b M b' base lim ban most n ks) (ht : BK w' b M lim ban most l) (hm : Mod (· = M) w w') : RB w' b' base lim ban most ks ∧ base ≤ w'.heap.size ∧ BK w' b M lim ban most l := by
  have := h.ne
  have := hm.size
  exact ⟨h.r.mod hm (fun e => by omega) (fun i hi e => by omega), by omega, ht⟩
end Go.Proofs.Ytiabjaaamgjlnaa
