/- The reference of rarest: Of, Gone, Add; no condition. -/
import Derived.Test.YtegmgflplhpacaaDoorRbA
namespace Go.Proofs.YtegmgflplhpacaaDoor
open Go Go.RowKit

abbrev TBl : TypeId := 87
abbrev TS2 : TypeId := 91
theorem booL_len (n : Nat) (f : Nat → Bool) : (booL n f).length = n := by simp [booL]
theorem booL_one (n : Nat) (f : Nat → Bool) : ∀ u ∈ booL n f, u.oneCell' = true := by
  intro u hu
  unfold booL at hu
  obtain ⟨k, _, rfl⟩ := List.mem_map.1 hu
  rfl
theorem own_some {w : World} {base n : Nat} {f : Nat → Bool} {v : Value} (h : w.ownsRow base 4 1 v n (booL n f)) (hn : 1 ≤ n) : ∃ g cap, v = .slice (some ⟨g, 0, none⟩) n cap := by
  rcases h.2 with ⟨_, h0⟩ | ⟨g, cap, cur, rfl, _⟩
  · omega
  · exact ⟨g, cap, rfl⟩
theorem boo_rset {w : World} {base n x g cap : Nat} {f : Nat → Bool} (h : w.ownsRow base 4 1 (.slice (some ⟨g, 0, none⟩) n cap) n (booL n f)) (hx : Blk w x #[.slice (some ⟨g, 0, none⟩) n cap] TS2) (hn : n ≤ 65536) : RSet w x g n f := by
  rcases h.2 with ⟨h0, _⟩ | ⟨g', cap', cur, hv, hg, hgh, h1, h2, h3, h4⟩
  · cases h0
  · cases hv
    refine ⟨⟨cap, hx⟩, fun e => ?_, ⟨cur, hgh, fun k hk => ?_⟩, hn⟩
    · subst e
      have := hx.symm.trans hgh
      simp only [Option.some.injEq, Obj.cells.injEq] at this
      have h5 := this.2.1
      revert h5
      decide
    · have := congrArg (fun l => l[k]?) h4
      simp only [List.getElem?_take] at this
      rw [if_pos (by omega)] at this
      rw [← Array.getElem?_toList, this]
      unfold booL
      rw [List.getElem?_map, List.getElem?_range hk]
      rfl
set_option maxRecDepth 100000 in
set_option maxHeartbeats 1000000 in
theorem refROf (id : Int) (b base n : Nat) (most : Int) (ks : List (Int × Rp)) (r : Rp) (w : World) (h : RD w b base n most ks) (hlen : ks.length ≤ 1000) (hr : Rising ks) (hn : 1 ≤ n ∧ n ≤ 1024) (hy : lkL ks id = some r) :
    Calls Tryd.prog 23 #[.pointer (some ⟨b, 0, none⟩), .int .i64 id] w fun e w' => (∃ x y : Nat, e = .returned (.tuple #[.pointer (some ⟨x, 0, none⟩), .int .i64 0]) ∧ RSet w' x y n r.f) ∧ Mod (fun _ => False) w w' := by
  obtain ⟨a, cap, _, _, c2, he, _, _, _, _⟩ := h.at
  have HF := Lib.hid (refRFind id b base n most ks w h hlen)
  have HSS := Lib.hid (h.sets _ (lk_some_mem hy))
  have HR := Lib.hid hr
  have HY := Lib.hid hy
  clear h hr hy
  go_enter Tryd.func23, Tryd.ntmps23
  go_wp2_with fail
  refine HF.out.mono ?_; rintro e w' ⟨⟨v, rfl, hv⟩, rfl⟩
  rcases hv with ⟨rfl, hno⟩ | ⟨i, r', rfl, hi⟩
  · have := HY.out
    rw [hno] at this
    cases this
  · have hrr : r' = r := by
      have := lk_of_mem HR.out (List.mem_of_getElem? hi)
      rw [HY.out] at this
      cases this
      rfl
    subst hrr
    obtain ⟨X, rfl, p0, p1⟩ := hvEl he.out (Nat.le_refl _) hi
    dsimp only at p0 p1
    have hil : (i : Int) < ks.length := by have := (List.getElem?_eq_some_iff.1 hi).1; omega
    have hil2 : i < ks.length := by omega
    have hi1 : decide ((i : Int) < 0) = false := by simp
    have HN := Lib.hid hn
    have ma := (Mod.refl (fun _ => False) w).alloc (.cells #[] 4)
    have q2 := ma.cell c2 (fun h => h)
    have q1 := ma.cell p1 (fun h => h)
    clear hi ma
    go_wp2_with (at_builtin; refine appS (base := w.heap.size) rfl (.tmp 12) (.tmp 20) TBl 4 1 rfl Tryd.underlying87 infoBool rfl (by decide) _ _ _ _ n (booL n r'.f) (by simp) (owns_empty _ _ _ _ (Nat.le_refl _)) rfl rfl ((HSS.out.sl).mod ((Mod.refl (fun _ => False) w).alloc _) (fun _ _ _ _ h => h)) (booL_one _ _) (by decide) (by have := HN.out; omega) ?_; intro v1 w4 o1 n1; rw [Nat.zero_add, List.nil_append] at o1; obtain ⟨g, cp, rfl⟩ := own_some o1 HN.out.1; have O2 := Lib.hid o1; have N1 := Lib.hid ((((Mod.refl (fun i => w.heap.size ≤ i) w).alloc (.cells #[] 4))).trans n1); clear o1 n1)
    have M2 := Lib.hid (N1.out.mono (S' := fun _ => False) (fun i hi (e : w.heap.size ≤ i) => by omega))
    clear N1
    go_ret2
    refine ⟨⟨_, g, rfl, boo_rset (O2.out.alloc _) (Blk.new w4 _ _) (by have := HN.out; omega)⟩, M2.out.alloc _⟩
set_option maxRecDepth 100000 in
set_option maxHeartbeats 1000000 in
theorem refROfNo (id : Int) (b base n : Nat) (most : Int) (ks : List (Int × Rp)) (w : World) (h : RD w b base n most ks) (hlen : ks.length ≤ 1000) (hr : Rising ks) (hy : lkL ks id = none) :
    Calls Tryd.prog 23 #[.pointer (some ⟨b, 0, none⟩), .int .i64 id] w fun e w' => e = .returned (.tuple #[.pointer none, .int .i64 4]) ∧ w = w' := by
  have HF := Lib.hid (refRFind id b base n most ks w h hlen)
  have HY := Lib.hid hy
  have HR := Lib.hid hr
  clear h hr hy
  go_enter Tryd.func23, Tryd.ntmps23
  go_wp2_with fail
  refine HF.out.mono ?_; rintro e w' ⟨⟨v, rfl, hv⟩, rfl⟩
  rcases hv with ⟨rfl, hno⟩ | ⟨i, r', rfl, hi⟩
  · clear hno
    go_wp2_with fail
    go_ret2
    exact ⟨rfl, rfl⟩
  · have := lk_of_mem HR.out (List.mem_of_getElem? hi)
    rw [HY.out] at this
    cases this

theorem hvL_append (n : Nat) (a b : List (Int × Rp)) : hvL n (a ++ b) = hvL n a ++ hvL n b := List.flatMap_append
theorem hvL_takeN (n : Nat) : ∀ (ks : List (Int × Rp)) (k : Nat), hvL n (ks.take k) = (hvL n ks).take (k * 2)
  | [], k => by simp [hvL]
  | q :: t, 0 => by simp [hvL]
  | q :: t, k + 1 => by
    rw [List.take_succ_cons, hvL_cons, hvL_cons, List.take_append, List.take_of_length_le (l := hvC n q) (by simp; omega), show (k + 1) * 2 - (hvC n q).length = k * 2 by simp; omega, hvL_takeN n t k]
theorem hvL_dropN (n : Nat) : ∀ (ks : List (Int × Rp)) (k : Nat), hvL n (ks.drop k) = (hvL n ks).drop (k * 2)
  | [], k => by simp [hvL]
  | q :: t, 0 => by simp [hvL]
  | q :: t, k + 1 => by
    rw [List.drop_succ_cons, hvL_cons, List.drop_append, List.drop_eq_nil_of_le (show (hvC n q).length ≤ (k + 1) * 2 by simp; omega), show (k + 1) * 2 - (hvC n q).length = k * 2 by simp; omega, hvL_dropN n t k]
    rfl
theorem hvL_one (n : Nat) (ks : List (Int × Rp)) : ∀ u ∈ hvL n ks, u.oneCell' = true := by
  intro u hu
  obtain ⟨q, _, hq⟩ := List.mem_flatMap.1 hu
  simp only [List.mem_cons, List.not_mem_nil, or_false] at hq
  rcases hq with rfl | rfl <;> rfl
theorem infoHs : (Tryd.prog.info? THs).map (fun i => (i.zero, i.size, i.bytes)) = some (some (.agg #[.int .i64 0, .slice none 0 0]), 2, 32) := by kernel_rfl
theorem del_at {α : Type} {ks : List (Int × α)} (hr : Rising ks) {i : Nat} {q : Int × α} (h : ks[i]? = some q) : delL ks q.1 = ks.take i ++ ks.drop (i + 1) := by
  induction ks generalizing i with
  | nil => simp at h
  | cons y t ih =>
    obtain ⟨h1, h2⟩ := List.pairwise_cons.1 hr
    cases i with
    | zero =>
      simp at h
      subst h
      unfold delL
      rw [List.filter_cons, if_neg (by simp)]
      show List.filter _ t = t
      rw [List.filter_eq_self]
      intro x hx
      have := h1 x hx
      simp; omega
    | succ i =>
      have h' : t[i]? = some q := by simpa using h
      have hq := h1 q (List.mem_of_getElem? h')
      have := ih h2 h'
      unfold delL at this ⊢
      rw [List.filter_cons, if_pos (by simp; omega), this]
      rfl
/-- Behind other rows: fewer. -/
theorem RD.rows {w w2 : World} {b base n : Nat} {most : Int} {ks k2 : List (Int × Rp)} (h : RD w b base n most ks) (hbase : base ≤ w.heap.size) {B : Nat} (hB : w.heap.size ≤ B) {a : Option Addr} {cap : Nat} (hm : Mod (· = b) w w2) (h1 : Blk w2 b #[.int .i64 n, .int .i64 most, .slice a k2.length cap] TBd) (h2 : w2.ownsRow B THs 2 (.slice a k2.length cap) k2.length (hvL n k2)) (hs : ∀ q ∈ k2, q ∈ ks) (hp : k2.Pairwise fun p q => p.2.g ≠ q.2.g) : RD w2 b base n most k2 := by
  refine ⟨h.lt, ⟨a, cap, h1, h2.mono (by omega), fun q hq X hX => ?_⟩, fun q hq => ?_, hp⟩
  · subst hX
    have h3 := (h.sets q (hs q hq)).lt q.2.g rfl
    have h4 := h2.blk X _ _ rfl
    omega
  · exact owns_modG (h.sets q (hs q hq)) hm (fun i hi e => by have := h.lt; omega)

set_option maxRecDepth 100000 in
set_option maxHeartbeats 2000000 in
theorem refRGone (id : Int) (i : Nat) (r : Rp) (b base n : Nat) (most : Int) (ks : List (Int × Rp)) (w : World) (h : RD w b base n most ks) (hlen : ks.length ≤ 1000) (hr : Rising ks) (hbase : base ≤ w.heap.size) (hi : ks[i]? = some (id, r)) :
    Calls Tryd.prog 42 #[.pointer (some ⟨b, 0, none⟩), .int .i64 id] w fun e w' => e = .returned (.int .i64 0) ∧ StepR n b base most ks (delL ks id) w w' := by
  obtain ⟨a, cap, _, _, c3, he, hbk, ho, hcap, _⟩ := h.at
  have hil := (List.getElem?_eq_some_iff.1 hi).1
  obtain ⟨X, rfl⟩ : ∃ X, a = some X := by
    obtain ⟨X, h, _⟩ := he.out 0 (by omega)
    exact ⟨X, h⟩
  have HF := Lib.hid (refRFind id b base n most ks w h hlen)
  have HR := Lib.hid hr
  have HI := Lib.hid hi
  have H := Lib.hid h
  have HBA := Lib.hid hbase
  have HDE := Lib.hid (del_at hr hi)
  have hb : b < w.heap.size := World.block_lt_of_cell? w _ c3
  have TK := Lib.hid (hvL_takeN n ks i)
  obtain ⟨j1, hj1⟩ : ∃ j1, j1 = i + 1 := ⟨_, rfl⟩
  have hj1i : (i : Int) + 1 = (j1 : Int) := by omega
  have hwr : IntKind.i64.wrap (j1 : Int) = (j1 : Int) := by unfold IntKind.wrap; simp [IntKind.bits, IntKind.signed]; omega
  have TD := Lib.hid (hvL_dropN n ks j1)
  have hjc : (i : Int) ≤ cap := by omega
  have hjc2 : (j1 : Int) ≤ cap := by omega
  have hjn2 : (j1 : Int) ≤ ks.length := by omega
  have hjn3 : j1 ≤ ks.length := by omega
  have hjc3 : (ks.length : Int) ≤ cap := by omega
  rw [← hj1] at HDE
  have HJ1 := Lib.hid hj1
  clear hj1 h hr hi hbase
  go_enter Tryd.func42, Tryd.ntmps42
  go_wp2_with fail
  refine HF.out.mono ?_; rintro e w' ⟨⟨v, rfl, hv⟩, rfl⟩
  have hvi : v = (i : Int) := by
    rcases hv with ⟨rfl, hno⟩ | ⟨i', r', rfl, hi'⟩
    · have := lk_of_mem HR.out (List.mem_of_getElem? HI.out)
      rw [hno] at this
      cases this
    · have h1 := List.pairwise_iff_getElem.1 HR.out
      obtain ⟨g1, e1⟩ := List.getElem?_eq_some_iff.1 HI.out
      obtain ⟨g2, e2⟩ := List.getElem?_eq_some_iff.1 hi'
      rcases Nat.lt_trichotomy i i' with hh | hh | hh
      · have := h1 i i' g1 g2 hh
        rw [e1, e2] at this
        simp at this
      · rw [hh]
      · have := h1 i' i g2 g1 hh
        rw [e1, e2] at this
        simp at this
  subst hvi
  clear hv HF
  have hi1 : decide ((i : Int) < 0) = false := by simp
  go_upto_region 4 with fail
  refine wp_regionO2 [0, 2, 3, 4, 5, 6, 7, 9, 10, 11, 12, 13, 14, 15, 1, 8, 16, 17, 18, 19] [(4, 3), (10, 3), (14, 4), (15, 4)] [] (by kernel_rfl) (by kernel_rfl) (by simp only [List.filterMap_cons, List.filterMap_nil, List.getElem?_cons_zero, List.getElem?_cons_succ]; exact rfl) ?_
  repeat (first | (refine reg_anyT (by rfl) (fun K hK => ?_); go_simp; refine hK _ _ ?_; clear hK K) | (refine reg_read (by rfl) (fun K hK => ?_); go_simp; refine hK _ _ ?_; clear hK K))
  refine reg_hold_v (by rfl) (by rfl) (.slice (some X) ks.length cap) (fun w' hw' => q_load _ _ _ rfl rfl Tryd.isAgg76 (hw'.cell c3)) ?_
  repeat (first | (refine reg_anyT (by rfl) (fun K hK => ?_); go_simp; refine hK _ _ ?_; clear hK K) | (refine reg_read (by rfl) (fun K hK => ?_); go_simp; refine hK _ _ ?_; clear hK K))
  refine reg_hold_v (by rfl) (by rfl) (.slice (some X) ks.length cap) (fun w' hw' => q_load _ _ _ rfl rfl Tryd.isAgg76 (hw'.cell c3)) ?_
  repeat (first | (refine reg_anyT (by rfl) (fun K hK => ?_); go_simp; refine hK _ _ ?_; clear hK K) | (refine reg_read (by rfl) (fun K hK => ?_); go_simp; refine hK _ _ ?_; clear hK K))
  refine reg_new (by rfl) (fun rn K hK => ?_); go_simp
  refine hK _ _ ⟨((Mod.refl (fun _ => False) (w.drewN rn)).alloc (.cells #[] THs)).ex, ?_⟩; clear hK K
  have ma : Mod (fun _ => False) w ((w.drewN rn).alloc (.cells #[] THs)) := ((Mod.refl _ w).drewN rn).alloc _
  have ga : Blk ((w.drewN rn).alloc (.cells #[] THs)) w.heap.size #[] THs := Blk.new (w.drewN rn) _ _
  refine reg_app0 (base := w.heap.size) (by rfl) (by rfl) (.tmp 12) (.tmp 18) THl THs 2 rfl Tryd.underlying76 infoHs rfl (by decide) w.heap.size _ i (hvL n (ks.take i)) (Nat.le_refl _) ga rfl rfl (by rw [TK.out]; exact (((ho.out.sl).mod ma (fun _ _ _ _ h => h)).head (by omega))) (hvL_one _ _) (by decide) (by omega) ?_
  intro v1 w3 o1 n1 a1
  have N1 := Lib.hid (ma.trans n1)
  have O3 := Lib.hid o1
  clear o1 n1 a1 ma ga
  refine reg_app (base := w.heap.size) (by rfl) (by rfl) (.tmp 19) (.tmp 26) THl THs 2 rfl Tryd.underlying76 infoHs rfl (by decide) _ _ _ _ (ks.length - j1) (hvL n (ks.drop j1)) N1.out.size O3.out rfl rfl (by rw [TD.out]; first | exact (ho.out.sl.mod N1.out (fun _ _ _ _ h => h)).tail (by omega) hcap | exact (ho.out.sl.mod N1.out (fun _ _ _ _ h => h)).tailN (by omega) hcap) (hvL_one _ _) (by decide) (by omega) ?_
  intro v2 w4 o2 n2 a2
  refine ⟨fun _ => trivial, ?_⟩
  obtain ⟨a3, cap3, rfl, _, _, _⟩ := o2.els
  have O4 := Lib.hid o2
  have ho3 := own_ge O3.out
  have N4 := Lib.hid ((N1.out.mono (S' := (fun i => w.heap.size ≤ i)) (fun _ _ h => h.elim)).trans (n2.mono (fun i _ h => ho3 i h)))
  have k33 := N4.out.cell c3 (by show ¬ w.heap.size ≤ b; omega)
  have f33 : w4.frozen? ⟨b, 2, none⟩ = false := by rw [N4.out.frozen (by show b < w.heap.size; omega) (by show ¬ w.heap.size ≤ b; omega)]; exact hbk.out.frozen 2
  have K4 := Lib.hid (hbk.out.mod N4.out (by show ¬ w.heap.size ≤ b; omega))
  clear o2 n2 a2 ho3
  repeat (first | (refine reg_anyT (by rfl) (fun K hK => ?_); go_simp; refine hK _ _ ?_; clear hK K) | (refine reg_read (by rfl) (fun K hK => ?_); go_simp; refine hK _ _ ?_; clear hK K))
  refine reg_eff (by rfl) (fun rn K hK => ?_); go_simp; refine hK _ _ ?_; clear hK K
  repeat (first | (refine reg_anyT (by rfl) (fun K hK => ?_); go_simp; refine hK _ _ ?_; clear hK K) | (refine reg_read (by rfl) (fun K hK => ?_); go_simp; refine hK _ _ ?_; clear hK K))
  refine reg_nil (fun nd => ?_)
  have hlenP : (ks.take i ++ ks.drop j1).length = i + (ks.length - j1) := by simp; omega
  have M5 := Lib.hid ((((N4.out.mono (S' := (· = b)) (fun i hi (h : w.heap.size ≤ i) => by omega)).drewN rn).set1 2 (.slice a3 (i + (ks.length - j1)) cap3)).drewN nd)
  have T5 : Hid (RD (((w4.drewN rn).setCell ⟨b, 2, none⟩ (.slice a3 (i + (ks.length - j1)) cap3)).drewN nd) b base n most (ks.take i ++ ks.drop j1)) := by
    refine H.out.rows HBA.out (B := w.heap.size) (Nat.le_refl _) (a := a3) (cap := cap3) M5.out ?_ ?_ (fun q hq => ?_) ?_
    · rw [hlenP]
      exact (show Blk (w4.drewN rn) b _ _ from K4.out).set 2 (.slice a3 (i + (ks.length - j1)) cap3)
    · rw [hlenP, hvL_append]
      exact owns_modG (S := (· = b)) O4.out ((((Mod.refl _ w4).drewN rn).set1 2 _).drewN nd) (fun i hi e => by omega)
    · rw [← HDE.out] at hq
      exact (List.mem_filter.1 hq).1
    · rw [← HDE.out]
      exact H.out.two.filter _
  have HBD : Hid (∀ q, RDb (((w4.drewN rn).setCell ⟨b, 2, none⟩ (.slice a3 (i + (ks.length - j1)) cap3)).drewN nd) b (ks.take i ++ ks.drop j1) q → RDb w b ks q ∨ w.heap.size ≤ q) := by
    intro q hq
    rcases hq with e | ⟨X', m, c, hx, e⟩ | ⟨q', hq', e⟩
    · exact .inl (.inl e)
    · have hc := ((show Blk (w4.drewN rn) b _ _ from K4.out).set 2 (.slice a3 (i + (ks.length - j1)) cap3)).cell 2
      have hx2 : ((w4.drewN rn).setCell ⟨b, 2, none⟩ (.slice a3 (i + (ks.length - j1)) cap3)).cell? ⟨b, 2, none⟩ = some (.slice (some X') m c) := hx
      rw [hc] at hx2
      simp at hx2
      obtain ⟨rfl, _, _⟩ := hx2
      have := (O4.out.blk X' _ _ rfl).1
      exact .inr (by omega)
    · rw [← HDE.out] at hq'
      exact .inl (.inr (.inr ⟨q', (List.mem_filter.1 hq').1, e⟩))
  clear k33 f33 c3 hlenP
  go_wp2_with fail
  all_goals (
    go_ret
    exact ⟨rfl, by rw [HDE.out]; exact ⟨T5.out, M5.out.mono (fun _ _ e => .inl e), HBD.out⟩⟩)
set_option maxRecDepth 100000 in
set_option maxHeartbeats 1000000 in
theorem refRGoneNo (id : Int) (b base n : Nat) (most : Int) (ks : List (Int × Rp)) (w : World) (h : RD w b base n most ks) (hlen : ks.length ≤ 1000) (hr : Rising ks) (hy : lkL ks id = none) :
    Calls Tryd.prog 42 #[.pointer (some ⟨b, 0, none⟩), .int .i64 id] w fun e w' => e = .returned (.int .i64 4) ∧ w = w' := by
  have HF := Lib.hid (refRFind id b base n most ks w h hlen)
  have HY := Lib.hid hy
  have HR := Lib.hid hr
  clear h hr hy
  go_enter Tryd.func42, Tryd.ntmps42
  go_wp2_with fail
  refine HF.out.mono ?_; rintro e w' ⟨⟨v, rfl, hv⟩, rfl⟩
  rcases hv with ⟨rfl, hno⟩ | ⟨i, r', rfl, hi⟩
  · clear hno
    go_wp2_with fail
    go_ret
    exact ⟨rfl, rfl⟩
  · have := lk_of_mem HR.out (List.mem_of_getElem? hi)
    rw [HY.out] at this
    cases this
end Go.Proofs.YtegmgflplhpacaaDoor
