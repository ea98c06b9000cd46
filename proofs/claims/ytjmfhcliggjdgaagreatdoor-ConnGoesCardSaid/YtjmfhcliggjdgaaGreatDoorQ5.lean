/- Texts of this claim, laid together by a program of its own: RbB, RbC, RbD, RbE, RbF, RaT, RwO, RwT, RcA, CoA, RcB, CoB. Each says in its first row what it proves. -/
import Derived.Deep.CutBlock
import Derived.Deep.CutRange
import Derived.Deep.QuietTactic
import Derived.BigQuiet
import Derived.Lib.SmallJoins
import Derived.ProofKit
import Derived.LaidMore
import Derived.OpenShut
import Derived.Stop.Joined
import Derived.Test.YtjmfhcliggjdgaaGreatDoorQ4
/- The reference of rarest: Of, Gone, Add; no condition. -/
namespace Go.Proofs.YtjmfhcliggjdgaaGreatDoor
open Go Go.RowKit

abbrev TBl : TypeId := 95
abbrev TS2 : TypeId := 102
theorem booL_len (n : Nat) (f : Nat → Bool) : (booL n f).length = n := by simp [booL]
theorem booL_one (n : Nat) (f : Nat → Bool) : ∀ u ∈ booL n f, u.oneCell' = true := by
  intro u hu
  unfold booL at hu
  obtain ⟨k, _, rfl⟩ := List.mem_map.1 hu
  rfl
theorem own_some {w : World} {base n : Nat} {f : Nat → Bool} {v : Value} (h : w.ownsRow base 4 1 v n (booL n f)) (hn : 1 ≤ n) : ∃ g cap, v = .slice (some ⟨g, 0, none⟩) n cap := by
  rcases h.2 with ⟨_, h0⟩ | ⟨g, cap, cur, rfl, _⟩
  · omega
  · exact ⟨g, cap, rfl⟩
theorem boo_rset {w : World} {base n x g cap : Nat} {f : Nat → Bool} (h : w.ownsRow base 4 1 (.slice (some ⟨g, 0, none⟩) n cap) n (booL n f)) (hx : Blk w x #[.slice (some ⟨g, 0, none⟩) n cap] TS2) (hn : n ≤ 65536) : RSet w x g n f := by
  rcases h.2 with ⟨h0, _⟩ | ⟨g', cap', cur, hv, hg, hgh, h1, h2, h3, h4⟩
  · cases h0
  · cases hv
    refine ⟨⟨cap, hx⟩, fun e => ?_, ⟨cur, hgh, fun k hk => ?_⟩, hn⟩
    · subst e
      have := hx.symm.trans hgh
      simp only [Option.some.injEq, Obj.cells.injEq] at this
      have h5 := this.2.1
      revert h5
      decide
    · have := congrArg (fun l => l[k]?) h4
      simp only [List.getElem?_take] at this
      rw [if_pos (by omega)] at this
      rw [← Array.getElem?_toList, this]
      unfold booL
      rw [List.getElem?_map, List.getElem?_range hk]
      rfl
set_option maxRecDepth 100000 in
set_option maxHeartbeats 1000000 in
theorem refROf (id : Int) (b base n : Nat) (most : Int) (ks : List (Int × Rp)) (r : Rp) (w : World) (h : RD w b base n most ks) (hlen : ks.length ≤ 1000) (hr : Rising ks) (hn : 1 ≤ n ∧ n ≤ 1024) (hy : lkL ks id = some r) :
    Calls Tryz.prog 14 #[.pointer (some ⟨b, 0, none⟩), .int .i64 id] w fun e w' => (∃ x y : Nat, e = .returned (.tuple #[.pointer (some ⟨x, 0, none⟩), .int .i64 0]) ∧ RSet w' x y n r.f) ∧ Mod (fun _ => False) w w' := by
  obtain ⟨a, cap, _, _, c2, he, _, _, _, _⟩ := h.at
  have HF := Lib.hid (refRFind id b base n most ks w h hlen)
  have HSS := Lib.hid (h.sets _ (lk_some_mem hy))
  have HR := Lib.hid hr
  have HY := Lib.hid hy
  clear h hr hy
  go_enter Tryz.func14, Tryz.ntmps14
  go_wp2_with fail
  refine HF.out.mono ?_; rintro e w' ⟨⟨v, rfl, hv⟩, rfl⟩
  rcases hv with ⟨rfl, hno⟩ | ⟨i, r', rfl, hi⟩
  · have := HY.out
    rw [hno] at this
    cases this
  · have hrr : r' = r := by
      have := lk_of_mem HR.out (List.mem_of_getElem? hi)
      rw [HY.out] at this
      cases this
      rfl
    subst hrr
    obtain ⟨X, rfl, p0, p1⟩ := hvEl he.out (Nat.le_refl _) hi
    dsimp only at p0 p1
    have hil : (i : Int) < ks.length := by have := (List.getElem?_eq_some_iff.1 hi).1; omega
    have hil2 : i < ks.length := by omega
    have hi1 : decide ((i : Int) < 0) = false := by simp
    have HN := Lib.hid hn
    have ma := (Mod.refl (fun _ => False) w).alloc (.cells #[] 4)
    have q2 := ma.cell c2 (fun h => h)
    have q1 := ma.cell p1 (fun h => h)
    clear hi ma
    go_wp2_with (at_builtin; refine appS (base := w.heap.size) rfl (.tmp 12) (.tmp 20) TBl 4 1 rfl Tryz.underlying95 infoBool rfl (by decide) _ _ _ _ n (booL n r'.f) (by simp) (owns_empty _ _ _ _ (Nat.le_refl _)) rfl rfl ((HSS.out.sl).mod ((Mod.refl (fun _ => False) w).alloc _) (fun _ _ _ _ h => h)) (booL_one _ _) (by decide) (by have := HN.out; omega) ?_; intro v1 w4 o1 n1; rw [Nat.zero_add, List.nil_append] at o1; obtain ⟨g, cp, rfl⟩ := own_some o1 HN.out.1; have O2 := Lib.hid o1; have N1 := Lib.hid ((((Mod.refl (fun i => w.heap.size ≤ i) w).alloc (.cells #[] 4))).trans n1); clear o1 n1)
    have M2 := Lib.hid (N1.out.mono (S' := fun _ => False) (fun i hi (e : w.heap.size ≤ i) => by omega))
    clear N1
    go_ret2
    refine ⟨⟨_, g, rfl, boo_rset (O2.out.alloc _) (Blk.new w4 _ _) (by have := HN.out; omega)⟩, M2.out.alloc _⟩
set_option maxRecDepth 100000 in
set_option maxHeartbeats 1000000 in
theorem refROfNo (id : Int) (b base n : Nat) (most : Int) (ks : List (Int × Rp)) (w : World) (h : RD w b base n most ks) (hlen : ks.length ≤ 1000) (hr : Rising ks) (hy : lkL ks id = none) :
    Calls Tryz.prog 14 #[.pointer (some ⟨b, 0, none⟩), .int .i64 id] w fun e w' => e = .returned (.tuple #[.pointer none, .int .i64 4]) ∧ w = w' := by
  have HF := Lib.hid (refRFind id b base n most ks w h hlen)
  have HY := Lib.hid hy
  have HR := Lib.hid hr
  clear h hr hy
  go_enter Tryz.func14, Tryz.ntmps14
  go_wp2_with fail
  refine HF.out.mono ?_; rintro e w' ⟨⟨v, rfl, hv⟩, rfl⟩
  rcases hv with ⟨rfl, hno⟩ | ⟨i, r', rfl, hi⟩
  · clear hno
    go_wp2_with fail
    go_ret2
    exact ⟨rfl, rfl⟩
  · have := lk_of_mem HR.out (List.mem_of_getElem? hi)
    rw [HY.out] at this
    cases this

theorem hvL_append (n : Nat) (a b : List (Int × Rp)) : hvL n (a ++ b) = hvL n a ++ hvL n b := List.flatMap_append
theorem hvL_takeN (n : Nat) : ∀ (ks : List (Int × Rp)) (k : Nat), hvL n (ks.take k) = (hvL n ks).take (k * 2)
  | [], k => by simp [hvL]
  | q :: t, 0 => by simp [hvL]
  | q :: t, k + 1 => by
    rw [List.take_succ_cons, hvL_cons, hvL_cons, List.take_append, List.take_of_length_le (l := hvC n q) (by simp; omega), show (k + 1) * 2 - (hvC n q).length = k * 2 by simp; omega, hvL_takeN n t k]
theorem hvL_dropN (n : Nat) : ∀ (ks : List (Int × Rp)) (k : Nat), hvL n (ks.drop k) = (hvL n ks).drop (k * 2)
  | [], k => by simp [hvL]
  | q :: t, 0 => by simp [hvL]
  | q :: t, k + 1 => by
    rw [List.drop_succ_cons, hvL_cons, List.drop_append, List.drop_eq_nil_of_le (show (hvC n q).length ≤ (k + 1) * 2 by simp; omega), show (k + 1) * 2 - (hvC n q).length = k * 2 by simp; omega, hvL_dropN n t k]
    rfl
theorem hvL_one (n : Nat) (ks : List (Int × Rp)) : ∀ u ∈ hvL n ks, u.oneCell' = true := by
  intro u hu
  obtain ⟨q, _, hq⟩ := List.mem_flatMap.1 hu
  simp only [List.mem_cons, List.not_mem_nil, or_false] at hq
  rcases hq with rfl | rfl <;> rfl
theorem infoHs : (Tryz.prog.info? THs).map (fun i => (i.zero, i.size, i.bytes)) = some (some (.agg #[.int .i64 0, .slice none 0 0]), 2, 32) := by kernel_rfl
theorem del_at {α : Type} {ks : List (Int × α)} (hr : Rising ks) {i : Nat} {q : Int × α} (h : ks[i]? = some q) : delL ks q.1 = ks.take i ++ ks.drop (i + 1) := by
  induction ks generalizing i with
  | nil => simp at h
  | cons y t ih =>
    obtain ⟨h1, h2⟩ := List.pairwise_cons.1 hr
    cases i with
    | zero =>
      simp at h
      subst h
      unfold delL
      rw [List.filter_cons, if_neg (by simp)]
      show List.filter _ t = t
      rw [List.filter_eq_self]
      intro x hx
      have := h1 x hx
      simp; omega
    | succ i =>
      have h' : t[i]? = some q := by simpa using h
      have hq := h1 q (List.mem_of_getElem? h')
      have := ih h2 h'
      unfold delL at this ⊢
      rw [List.filter_cons, if_pos (by simp; omega), this]
      rfl
/-- Behind other rows: fewer. -/
theorem RD.rows {w w2 : World} {b base n : Nat} {most : Int} {ks k2 : List (Int × Rp)} (h : RD w b base n most ks) (hbase : base ≤ w.heap.size) {B : Nat} (hB : w.heap.size ≤ B) {a : Option Addr} {cap : Nat} (hm : Mod (· = b) w w2) (h1 : Blk w2 b #[.int .i64 n, .int .i64 most, .slice a k2.length cap] TBd) (h2 : w2.ownsRow B THs 2 (.slice a k2.length cap) k2.length (hvL n k2)) (hs : ∀ q ∈ k2, q ∈ ks) (hp : k2.Pairwise fun p q => p.2.g ≠ q.2.g) : RD w2 b base n most k2 := by
  refine ⟨h.lt, ⟨a, cap, h1, h2.mono (by omega), fun q hq X hX => ?_⟩, fun q hq => ?_, hp⟩
  · subst hX
    have h3 := (h.sets q (hs q hq)).lt q.2.g rfl
    have h4 := h2.blk X _ _ rfl
    omega
  · exact owns_modG (h.sets q (hs q hq)) hm (fun i hi e => by have := h.lt; omega)

set_option maxRecDepth 100000 in
set_option maxHeartbeats 2000000 in
theorem refRGone (id : Int) (i : Nat) (r : Rp) (b base n : Nat) (most : Int) (ks : List (Int × Rp)) (w : World) (h : RD w b base n most ks) (hlen : ks.length ≤ 1000) (hr : Rising ks) (hbase : base ≤ w.heap.size) (hi : ks[i]? = some (id, r)) :
    Calls Tryz.prog 63 #[.pointer (some ⟨b, 0, none⟩), .int .i64 id] w fun e w' => e = .returned (.int .i64 0) ∧ StepR n b base most ks (delL ks id) w w' := by
  obtain ⟨a, cap, _, _, c3, he, hbk, ho, hcap, _⟩ := h.at
  have hil := (List.getElem?_eq_some_iff.1 hi).1
  obtain ⟨X, rfl⟩ : ∃ X, a = some X := by
    obtain ⟨X, h, _⟩ := he.out 0 (by omega)
    exact ⟨X, h⟩
  have HF := Lib.hid (refRFind id b base n most ks w h hlen)
  have HR := Lib.hid hr
  have HI := Lib.hid hi
  have H := Lib.hid h
  have HBA := Lib.hid hbase
  have HDE := Lib.hid (del_at hr hi)
  have hb : b < w.heap.size := World.block_lt_of_cell? w _ c3
  have TK := Lib.hid (hvL_takeN n ks i)
  obtain ⟨j1, hj1⟩ : ∃ j1, j1 = i + 1 := ⟨_, rfl⟩
  have hj1i : (i : Int) + 1 = (j1 : Int) := by omega
  have hwr : IntKind.i64.wrap (j1 : Int) = (j1 : Int) := by unfold IntKind.wrap; simp [IntKind.bits, IntKind.signed]; omega
  have TD := Lib.hid (hvL_dropN n ks j1)
  have hjc : (i : Int) ≤ cap := by omega
  have hjc2 : (j1 : Int) ≤ cap := by omega
  have hjn2 : (j1 : Int) ≤ ks.length := by omega
  have hjn3 : j1 ≤ ks.length := by omega
  have hjc3 : (ks.length : Int) ≤ cap := by omega
  rw [← hj1] at HDE
  have HJ1 := Lib.hid hj1
  clear hj1 h hr hi hbase
  go_enter Tryz.func63, Tryz.ntmps63
  go_wp2_with fail
  refine HF.out.mono ?_; rintro e w' ⟨⟨v, rfl, hv⟩, rfl⟩
  have hvi : v = (i : Int) := by
    rcases hv with ⟨rfl, hno⟩ | ⟨i', r', rfl, hi'⟩
    · have := lk_of_mem HR.out (List.mem_of_getElem? HI.out)
      rw [hno] at this
      cases this
    · have h1 := List.pairwise_iff_getElem.1 HR.out
      obtain ⟨g1, e1⟩ := List.getElem?_eq_some_iff.1 HI.out
      obtain ⟨g2, e2⟩ := List.getElem?_eq_some_iff.1 hi'
      rcases Nat.lt_trichotomy i i' with hh | hh | hh
      · have := h1 i i' g1 g2 hh
        rw [e1, e2] at this
        simp at this
      · rw [hh]
      · have := h1 i' i g2 g1 hh
        rw [e1, e2] at this
        simp at this
  subst hvi
  clear hv HF
  have hi1 : decide ((i : Int) < 0) = false := by simp
  go_upto_region 4 with fail
  refine wp_regionO2 [0, 2, 3, 4, 5, 6, 7, 9, 10, 11, 12, 13, 14, 15, 1, 8, 16, 17, 18, 19] [(4, 3), (10, 3), (14, 4), (15, 4)] [] (by kernel_rfl) (by kernel_rfl) (by simp only [List.filterMap_cons, List.filterMap_nil, List.getElem?_cons_zero, List.getElem?_cons_succ]; exact rfl) ?_
  repeat (first | (refine reg_anyT (by rfl) (fun K hK => ?_); go_simp; refine hK _ _ ?_; clear hK K) | (refine reg_read (by rfl) (fun K hK => ?_); go_simp; refine hK _ _ ?_; clear hK K))
  refine reg_hold_v (by rfl) (by rfl) (.slice (some X) ks.length cap) (fun w' hw' => q_load _ _ _ rfl rfl Tryz.isAgg98 (hw'.cell c3)) ?_
  repeat (first | (refine reg_anyT (by rfl) (fun K hK => ?_); go_simp; refine hK _ _ ?_; clear hK K) | (refine reg_read (by rfl) (fun K hK => ?_); go_simp; refine hK _ _ ?_; clear hK K))
  refine reg_hold_v (by rfl) (by rfl) (.slice (some X) ks.length cap) (fun w' hw' => q_load _ _ _ rfl rfl Tryz.isAgg98 (hw'.cell c3)) ?_
  repeat (first | (refine reg_anyT (by rfl) (fun K hK => ?_); go_simp; refine hK _ _ ?_; clear hK K) | (refine reg_read (by rfl) (fun K hK => ?_); go_simp; refine hK _ _ ?_; clear hK K))
  refine reg_new (by rfl) (fun rn K hK => ?_); go_simp
  refine hK _ _ ⟨((Mod.refl (fun _ => False) (w.drewN rn)).alloc (.cells #[] THs)).ex, ?_⟩; clear hK K
  have ma : Mod (fun _ => False) w ((w.drewN rn).alloc (.cells #[] THs)) := ((Mod.refl _ w).drewN rn).alloc _
  have ga : Blk ((w.drewN rn).alloc (.cells #[] THs)) w.heap.size #[] THs := Blk.new (w.drewN rn) _ _
  refine reg_app0 (base := w.heap.size) (by rfl) (by rfl) (.tmp 12) (.tmp 18) THl THs 2 rfl Tryz.underlying98 infoHs rfl (by decide) w.heap.size _ i (hvL n (ks.take i)) (Nat.le_refl _) ga rfl rfl (by rw [TK.out]; exact (((ho.out.sl).mod ma (fun _ _ _ _ h => h)).head (by omega))) (hvL_one _ _) (by decide) (by omega) ?_
  intro v1 w3 o1 n1 a1
  have N1 := Lib.hid (ma.trans n1)
  have O3 := Lib.hid o1
  clear o1 n1 a1 ma ga
  refine reg_app (base := w.heap.size) (by rfl) (by rfl) (.tmp 19) (.tmp 26) THl THs 2 rfl Tryz.underlying98 infoHs rfl (by decide) _ _ _ _ (ks.length - j1) (hvL n (ks.drop j1)) N1.out.size O3.out rfl rfl (by rw [TD.out]; first | exact (ho.out.sl.mod N1.out (fun _ _ _ _ h => h)).tail (by omega) hcap | exact (ho.out.sl.mod N1.out (fun _ _ _ _ h => h)).tailN (by omega) hcap) (hvL_one _ _) (by decide) (by omega) ?_
  intro v2 w4 o2 n2 a2
  refine ⟨fun _ => trivial, ?_⟩
  obtain ⟨a3, cap3, rfl, _, _, _⟩ := o2.els
  have O4 := Lib.hid o2
  have ho3 := own_ge O3.out
  have N4 := Lib.hid ((N1.out.mono (S' := (fun i => w.heap.size ≤ i)) (fun _ _ h => h.elim)).trans (n2.mono (fun i _ h => ho3 i h)))
  have k33 := N4.out.cell c3 (by show ¬ w.heap.size ≤ b; omega)
  have f33 : w4.frozen? ⟨b, 2, none⟩ = false := by rw [N4.out.frozen (by show b < w.heap.size; omega) (by show ¬ w.heap.size ≤ b; omega)]; exact hbk.out.frozen 2
  have K4 := Lib.hid (hbk.out.mod N4.out (by show ¬ w.heap.size ≤ b; omega))
  clear o2 n2 a2 ho3
  repeat (first | (refine reg_anyT (by rfl) (fun K hK => ?_); go_simp; refine hK _ _ ?_; clear hK K) | (refine reg_read (by rfl) (fun K hK => ?_); go_simp; refine hK _ _ ?_; clear hK K))
  refine reg_eff (by rfl) (fun rn K hK => ?_); go_simp; refine hK _ _ ?_; clear hK K
  repeat (first | (refine reg_anyT (by rfl) (fun K hK => ?_); go_simp; refine hK _ _ ?_; clear hK K) | (refine reg_read (by rfl) (fun K hK => ?_); go_simp; refine hK _ _ ?_; clear hK K))
  refine reg_nil (fun nd => ?_)
  have hlenP : (ks.take i ++ ks.drop j1).length = i + (ks.length - j1) := by simp; omega
  have M5 := Lib.hid ((((N4.out.mono (S' := (· = b)) (fun i hi (h : w.heap.size ≤ i) => by omega)).drewN rn).set1 2 (.slice a3 (i + (ks.length - j1)) cap3)).drewN nd)
  have T5 : Hid (RD (((w4.drewN rn).setCell ⟨b, 2, none⟩ (.slice a3 (i + (ks.length - j1)) cap3)).drewN nd) b base n most (ks.take i ++ ks.drop j1)) := by
    refine H.out.rows HBA.out (B := w.heap.size) (Nat.le_refl _) (a := a3) (cap := cap3) M5.out ?_ ?_ (fun q hq => ?_) ?_
    · rw [hlenP]
      exact (show Blk (w4.drewN rn) b _ _ from K4.out).set 2 (.slice a3 (i + (ks.length - j1)) cap3)
    · rw [hlenP, hvL_append]
      exact owns_modG (S := (· = b)) O4.out ((((Mod.refl _ w4).drewN rn).set1 2 _).drewN nd) (fun i hi e => by omega)
    · rw [← HDE.out] at hq
      exact (List.mem_filter.1 hq).1
    · rw [← HDE.out]
      exact H.out.two.filter _
  have HBD : Hid (∀ q, RDb (((w4.drewN rn).setCell ⟨b, 2, none⟩ (.slice a3 (i + (ks.length - j1)) cap3)).drewN nd) b (ks.take i ++ ks.drop j1) q → RDb w b ks q ∨ w.heap.size ≤ q) := by
    intro q hq
    rcases hq with e | ⟨X', m, c, hx, e⟩ | ⟨q', hq', e⟩
    · exact .inl (.inl e)
    · have hc := ((show Blk (w4.drewN rn) b _ _ from K4.out).set 2 (.slice a3 (i + (ks.length - j1)) cap3)).cell 2
      have hx2 : ((w4.drewN rn).setCell ⟨b, 2, none⟩ (.slice a3 (i + (ks.length - j1)) cap3)).cell? ⟨b, 2, none⟩ = some (.slice (some X') m c) := hx
      rw [hc] at hx2
      simp at hx2
      obtain ⟨rfl, _, _⟩ := hx2
      have := (O4.out.blk X' _ _ rfl).1
      exact .inr (by omega)
    · rw [← HDE.out] at hq'
      exact .inl (.inr (.inr ⟨q', (List.mem_filter.1 hq').1, e⟩))
  clear k33 f33 c3 hlenP
  go_wp2_with fail
  all_goals (
    go_ret
    exact ⟨rfl, by rw [HDE.out]; exact ⟨T5.out, M5.out.mono (fun _ _ e => .inl e), HBD.out⟩⟩)
set_option maxRecDepth 100000 in
set_option maxHeartbeats 1000000 in
theorem refRGoneNo (id : Int) (b base n : Nat) (most : Int) (ks : List (Int × Rp)) (w : World) (h : RD w b base n most ks) (hlen : ks.length ≤ 1000) (hr : Rising ks) (hy : lkL ks id = none) :
    Calls Tryz.prog 63 #[.pointer (some ⟨b, 0, none⟩), .int .i64 id] w fun e w' => e = .returned (.int .i64 4) ∧ w = w' := by
  have HF := Lib.hid (refRFind id b base n most ks w h hlen)
  have HY := Lib.hid hy
  have HR := Lib.hid hr
  clear h hr hy
  go_enter Tryz.func63, Tryz.ntmps63
  go_wp2_with fail
  refine HF.out.mono ?_; rintro e w' ⟨⟨v, rfl, hv⟩, rfl⟩
  rcases hv with ⟨rfl, hno⟩ | ⟨i, r', rfl, hi⟩
  · clear hno
    go_wp2_with fail
    go_ret
    exact ⟨rfl, rfl⟩
  · have := lk_of_mem HR.out (List.mem_of_getElem? hi)
    rw [HY.out] at this
    cases this
end Go.Proofs.YtjmfhcliggjdgaaGreatDoor

/- The reference of rarest: Add, Set; no condition. -/
namespace Go.Proofs.YtjmfhcliggjdgaaGreatDoor
open Go Go.RowKit

theorem ins_at {α : Type} (x : Int × α) : ∀ (ks : List (Int × α)) (k : Nat), (∀ (j : Nat) (q : Int × α), j < k → ks[j]? = some q → q.1 < x.1) → k ≤ ks.length → (∀ q, ks[k]? = some q → x.1 < q.1) → insS x ks = ks.take k ++ x :: ks.drop k
  | [], k, _, hk, _ => by simp at hk; subst hk; rfl
  | y :: t, 0, _, _, h2 => by
    have := h2 y rfl
    unfold insS
    rw [if_pos this]
    rfl
  | y :: t, k + 1, h1, hk, h2 => by
    have := h1 0 y (by omega) rfl
    unfold insS
    rw [if_neg (by omega), ins_at x t k (fun j q hj hq => h1 (j + 1) q (by omega) (by simpa using hq)) (by simpa using hk) (fun q hq => h2 q (by simpa using hq))]
    rfl
theorem put_at {α : Type} {ks : List (Int × α)} (hr : Rising ks) {i : Nat} {id : Int} {r : α} (h : ks[i]? = some (id, r)) (r' : α) : putL ks id r' = ks.set i (id, r') := by
  have hi := (List.getElem?_eq_some_iff.1 h).1
  unfold putL
  rw [del_at hr h]
  have hlow : ∀ (j : Nat) (q : Int × α), j < i → ks[j]? = some q → q.1 < id := by
    intro j q hj hq
    have hj' := (List.getElem?_eq_some_iff.1 hq).1
    have := List.pairwise_iff_getElem.1 hr j i hj' hi hj
    rw [(List.getElem?_eq_some_iff.1 hq).2, (List.getElem?_eq_some_iff.1 h).2] at this
    exact this
  have hhigh : ∀ (j : Nat) (q : Int × α), i < j → ks[j]? = some q → id < q.1 := by
    intro j q hj hq
    have hj' := (List.getElem?_eq_some_iff.1 hq).1
    have := List.pairwise_iff_getElem.1 hr i j hi hj' hj
    rw [(List.getElem?_eq_some_iff.1 hq).2, (List.getElem?_eq_some_iff.1 h).2] at this
    exact this
  have hlt : (ks.take i).length = i := by simp; omega
  rw [ins_at (id, r') (ks.take i ++ ks.drop (i + 1)) i ?_ (by simp; omega) ?_, List.take_append_of_le_length (by omega), List.take_of_length_le (by omega), List.drop_append_of_le_length (by omega), List.drop_of_length_le (by omega), List.nil_append, List.set_eq_take_append_cons_drop, if_pos hi]
  · intro j q hj hq
    rw [List.getElem?_append_left (by omega), List.getElem?_take, if_pos hj] at hq
    exact hlow j q hj hq
  · intro q hq
    rw [List.getElem?_append_right (by omega), hlt, Nat.sub_self, List.getElem?_drop] at hq
    exact hhigh _ q (by omega) hq
theorem owns_off {w w' : World} {base B : Nat} {e : TypeId} {size : Nat} {u : Value} {n : Nat} {xs : List Value} (h : w.ownsRow base e size u n xs) (hm : Mod (· = B) w w') (hB : u.ownBlock ≠ some B) : w'.ownsRow base e size u n xs := by
  refine owns_apart (v := .slice (some ⟨B, 0, none⟩) 0 0) h (hm.mono fun k _ e => ?_) fun k h1 h2 => hB ?_
  · show (Value.slice (some ⟨B, 0, none⟩) 0 0).ownBlock = some k
    rw [e]
    rfl
  · have : B = k := by simpa [Value.ownBlock] using h1
    rw [this]
    exact h2
theorem idx_eq {α : Type} {ks : List (Int × α)} (hr : Rising ks) {i j : Nat} {x : Int} {r r' : α} (h1 : ks[i]? = some (x, r)) (h2 : ks[j]? = some (x, r')) : i = j := by
  obtain ⟨hi, e1⟩ := List.getElem?_eq_some_iff.1 h1
  obtain ⟨hj, e2⟩ := List.getElem?_eq_some_iff.1 h2
  have hp := List.pairwise_iff_getElem.1 hr
  rcases Nat.lt_trichotomy i j with h | h | h
  · have := hp i j hi hj h
    rw [e1, e2] at this
    simp at this
  · exact h
  · have := hp j i hj hi h
    rw [e1, e2] at this
    simp at this
theorem refRFindAt (id : Int) (i : Nat) (r : Rp) (b base n : Nat) (most : Int) (ks : List (Int × Rp)) (w : World) (h : RD w b base n most ks) (hr : Rising ks) (hlen : ks.length ≤ 1000) (hi : ks[i]? = some (id, r)) :
    Calls Tryz.prog 51 #[.pointer (some ⟨b, 0, none⟩), .int .i64 id] w fun e w' => e = .returned (.int .i64 i) ∧ w = w' := by
  refine (refRFind id b base n most ks w h hlen).mono ?_
  rintro e w' ⟨⟨v, rfl, hv⟩, rfl⟩
  rcases hv with ⟨rfl, hn⟩ | ⟨j, r', rfl, hj⟩
  · rw [lk_of_mem hr (List.mem_of_getElem? hi)] at hn
    cases hn
  · rw [idx_eq hr hi hj]
    exact ⟨rfl, rfl⟩
theorem refRFindNo (id : Int) (b base n : Nat) (most : Int) (ks : List (Int × Rp)) (w : World) (h : RD w b base n most ks) (hr : Rising ks) (hlen : ks.length ≤ 1000) (hy : lkL ks id = none) :
    Calls Tryz.prog 51 #[.pointer (some ⟨b, 0, none⟩), .int .i64 id] w fun e w' => e = .returned (.int .i64 (-1)) ∧ w = w' := by
  refine (refRFind id b base n most ks w h hlen).mono ?_
  rintro e w' ⟨⟨v, rfl, hv⟩, rfl⟩
  rcases hv with ⟨rfl, hn⟩ | ⟨j, r', rfl, hj⟩
  · exact ⟨rfl, rfl⟩
  · rw [lk_of_mem hr (List.mem_of_getElem? hj)] at hy
    cases hy

theorem hvL_same {n : Nat} {r r' : Rp} {x : Int} (hg : r'.g = r.g) (hc : r'.cap = r.cap) : ∀ {ks : List (Int × Rp)} {i : Nat}, ks[i]? = some (x, r) → hvL n (ks.set i (x, r')) = hvL n ks
  | [], i, h => by simp at h
  | y :: t, 0, h => by
    simp at h
    subst h
    rw [List.set_cons_zero, hvL_cons, hvL_cons]
    simp [hg, hc]
  | y :: t, i + 1, h => by
    rw [List.set_cons_succ, hvL_cons, hvL_cons, hvL_same hg hc (by simpa using h)]
theorem boo_set {n : Nat} {f : Nat → Bool} {k : Nat} (hk : k < n) (one : Bool) : (booL n f).set k (.bool one) = booL n (fil f k (k + 1) one) := by
  apply List.ext_getElem?
  intro j
  rw [List.getElem?_set]
  unfold booL
  by_cases hj : j < n
  · by_cases e : k = j
    · subst e
      rw [if_pos rfl, if_pos (by simp; exact hk), List.getElem?_map, List.getElem?_range hk]
      simp [fil]
    · rw [if_neg e, List.getElem?_map, List.getElem?_map, List.getElem?_range hj]
      have : ¬ (k ≤ j ∧ j < k + 1) := by omega
      simp [fil, this]
  · by_cases e : k = j
    · omega
    · rw [if_neg e, List.getElem?_eq_none (by simp; omega), List.getElem?_eq_none (by simp; omega)]
/-- Behind a store into one's places. -/
theorem RD.more {w w2 : World} {b base n : Nat} {most : Int} {ks : List (Int × Rp)} (h : RD w b base n most ks) (hr : Rising ks) {i : Nat} {id : Int} {r : Rp} {f : Nat → Bool} (hi : ks[i]? = some (id, r)) (hm : Mod (· = r.g) w w2) (h2 : w2.ownsRow base 4 1 (.slice (some ⟨r.g, 0, none⟩) n r.cap) n (booL n f)) : RD w2 b base n most (putL ks id ⟨r.g, r.cap, f⟩) := by
  obtain ⟨h1, ⟨a, cap, h3, h4, h5⟩, h6, h7⟩ := h
  have hmem := List.mem_of_getElem? hi
  have hg := (h6 _ hmem).lt r.g rfl
  rw [put_at hr hi]
  have hl : (ks.set i (id, (⟨r.g, r.cap, f⟩ : Rp))).length = ks.length := by simp
  have hgs : ∀ q ∈ ks.set i (id, (⟨r.g, r.cap, f⟩ : Rp)), q = (id, ⟨r.g, r.cap, f⟩) ∨ ∃ j, j ≠ i ∧ ks[j]? = some q := by
    intro q hq
    obtain ⟨j, hj⟩ := List.getElem?_of_mem hq
    rw [List.getElem?_set] at hj
    split at hj
    · split at hj
      · left; simpa using hj.symm
      · cases hj
    · right; rename_i hne; exact ⟨j, fun e => hne e.symm, hj⟩
  have hdist : ∀ j q, j ≠ i → ks[j]? = some q → q.2.g ≠ r.g := by
    intro j q hne hj
    obtain ⟨g1, e1⟩ := List.getElem?_eq_some_iff.1 hi
    obtain ⟨g2, e2⟩ := List.getElem?_eq_some_iff.1 hj
    have hp := List.pairwise_iff_getElem.1 h7
    rcases Nat.lt_or_ge j i with hh | hh
    · have := hp j i g2 g1 hh
      rw [e1, e2] at this
      exact this
    · have := hp i j g1 g2 (by omega)
      rw [e1, e2] at this
      exact fun e => this e.symm
  refine ⟨h1, ⟨a, cap, by rw [hl]; exact h3.mod hm (by omega), ?_, fun q hq X hX => ?_⟩, fun q hq => ?_, ?_⟩
  · rw [hl, hvL_same (r := r) (r' := ⟨r.g, r.cap, f⟩) rfl rfl hi]
    refine owns_off h4 hm fun e => ?_
    cases a with
    | none => simp [Value.ownBlock] at e
    | some X =>
      have := h5 _ hmem X rfl
      simp [Value.ownBlock] at e
      exact this e
  · rcases hgs q hq with rfl | ⟨j, _, hj⟩
    · exact h5 _ hmem X hX
    · exact h5 q (List.mem_of_getElem? hj) X hX
  · rcases hgs q hq with rfl | ⟨j, hne, hj⟩
    · exact h2
    · refine owns_off (h6 q (List.mem_of_getElem? hj)) hm fun e => ?_
      simp [Value.ownBlock] at e
      exact hdist j q hne hj e
  · rw [List.pairwise_iff_getElem] at h7 ⊢
    intro x y hx hy hxy
    have hx' : x < ks.length := by simpa using hx
    have hy' : y < ks.length := by simpa using hy
    have := h7 x y hx' hy' hxy
    obtain ⟨g1, e1⟩ := List.getElem?_eq_some_iff.1 hi
    rw [List.getElem_set, List.getElem_set]
    split
    · rename_i ex
      subst ex
      rw [if_neg (by omega)]
      rw [e1] at this
      exact this
    · split
      · rename_i ey
        subst ey
        rw [e1] at this
        exact this
      · exact this

set_option maxRecDepth 100000 in
set_option maxHeartbeats 1000000 in
theorem refRAddNo (id k : Int) (b base n : Nat) (most : Int) (ks : List (Int × Rp)) (w : World) (h : RD w b base n most ks) (hlen : ks.length ≤ 1000) (hr : Rising ks) (hy : lkL ks id = none) :
    Calls Tryz.prog 32 #[.pointer (some ⟨b, 0, none⟩), .int .i64 id, .int .i64 k] w fun e w' => e = .returned (.int .i64 4) ∧ w = w' := by
  have HF := Lib.hid (refRFindNo id b base n most ks w h hr hlen hy)
  clear h hr hy
  go_enter Tryz.func32, Tryz.ntmps32
  go_wp2_with fail
  refine HF.out.mono ?_; rintro e w' ⟨rfl, rfl⟩
  go_wp2_with fail
  go_ret
  exact ⟨rfl, rfl⟩
set_option maxRecDepth 100000 in
set_option maxHeartbeats 1000000 in
theorem refRAddBad (id k : Int) (i : Nat) (r : Rp) (b base n : Nat) (most : Int) (ks : List (Int × Rp)) (w : World) (h : RD w b base n most ks) (hlen : ks.length ≤ 1000) (hr : Rising ks) (hi : ks[i]? = some (id, r)) (hk : k < 0 ∨ n ≤ k) :
    Calls Tryz.prog 32 #[.pointer (some ⟨b, 0, none⟩), .int .i64 id, .int .i64 k] w fun e w' => e = .returned (.int .i64 1) ∧ w = w' := by
  have HF := Lib.hid (refRFindAt id i r b base n most ks w h hr hlen hi)
  obtain ⟨a, cap, c0, _, c2, _, _, _, _, _⟩ := h.at
  have hi1 : decide ((i : Int) < 0) = false := by simp
  clear h hr hi
  by_cases h1 : k < 0
  · go_enter Tryz.func32, Tryz.ntmps32
    go_wp2_with fail
    refine HF.out.mono ?_; rintro e w' ⟨rfl, rfl⟩
    go_wp2_with fail
    go_ret
    exact ⟨rfl, rfl⟩
  · have h2 : (n : Int) ≤ k := by omega
    go_enter Tryz.func32, Tryz.ntmps32
    go_wp2_with fail
    refine HF.out.mono ?_; rintro e w' ⟨rfl, rfl⟩
    go_wp2_with fail
    go_ret
    exact ⟨rfl, rfl⟩
set_option maxRecDepth 100000 in
set_option maxHeartbeats 1000000 in
theorem refRAdd (id : Int) (k i : Nat) (r : Rp) (b base n : Nat) (most : Int) (ks : List (Int × Rp)) (w : World) (h : RD w b base n most ks) (hlen : ks.length ≤ 1000) (hr : Rising ks) (hi : ks[i]? = some (id, r)) (hk : k < n) :
    Calls Tryz.prog 32 #[.pointer (some ⟨b, 0, none⟩), .int .i64 id, .int .i64 k] w fun e w' => e = .returned (.int .i64 0) ∧ StepR n b base most ks (putL ks id ⟨r.g, r.cap, fil r.f k (k + 1) true⟩) w w' := by
  have HF := Lib.hid (refRFindAt id i r b base n most ks w h hr hlen hi)
  obtain ⟨a, cap, c0, _, c2, he, _, _, _, _⟩ := h.at
  obtain ⟨X, rfl, p0, p1⟩ := hvEl he.out (Nat.le_refl _) hi
  dsimp only at p0 p1
  have hi1 : decide ((i : Int) < 0) = false := by simp
  have hil2 : i < ks.length := (List.getElem?_eq_some_iff.1 hi).1
  have hil : (i : Int) < ks.length := by omega
  have hkn : (k : Int) < n := by omega
  have hk0 : decide ((k : Int) < 0) = false := by simp
  have hs := h.sets _ (List.mem_of_getElem? hi)
  obtain ⟨b0, b1⟩ := boo_at hs hk
  dsimp only at b0 b1 hs
  have hm := (Mod.refl (· = r.g) w).set1 k (.bool true)
  have hst := (hs.stored k (.bool true)).1
  rw [boo_set hk] at hst
  have HN := Lib.hid (h.more hr hi hm hst)
  have HM := Lib.hid (hm.mono (S' := RDb w b ks) (fun i _ e => .inr (.inr ⟨_, List.mem_of_getElem? hi, e⟩)))
  have HBD : Hid (∀ q, RDb (w.setCell ⟨r.g, k, none⟩ (.bool true)) b (putL ks id ⟨r.g, r.cap, fil r.f k (k + 1) true⟩) q → RDb w b ks q ∨ w.heap.size ≤ q) := by
    intro q hq
    have hgb : b ≠ r.g := by have := h.lt; have := (hs.lt r.g rfl).1; omega
    rcases hq with e | ⟨X', m, c, hx, e⟩ | ⟨q', hq', e⟩
    · exact .inl (.inl e)
    · have hc := hm.cell c2 (show ¬ b = r.g from hgb)
      rw [hc] at hx
      exact .inl (.inr (.inl ⟨X', m, c, by rw [c2]; exact hx, e⟩))
    · rcases mem_putO hq' with rfl | hq'
      · exact .inl (.inr (.inr ⟨_, List.mem_of_getElem? hi, e⟩))
      · exact .inl (.inr (.inr ⟨q', hq', e⟩))
  clear h hr hi hs hm hst
  go_enter Tryz.func32, Tryz.ntmps32
  go_wp2_with fail
  refine HF.out.mono ?_; rintro e w' ⟨rfl, rfl⟩
  go_wp2_with fail
  go_ret
  exact ⟨rfl, HN.out, HM.out, HBD.out⟩
end Go.Proofs.YtjmfhcliggjdgaaGreatDoor

/- The reference of rarest: Set; no condition. -/
namespace Go.Proofs.YtjmfhcliggjdgaaGreatDoor
open Go Go.RowKit

theorem refId (n : Int) (w : World) : Calls Tryz.prog 59 #[.int .i64 n] w fun e w' => e = .returned (.bool (decide (1 ≤ n) && decide (n ≤ 65536))) ∧ w = w' := by
  by_cases h1 : 1 ≤ n
  · go_enter Tryz.func59, Tryz.ntmps59
    go_wp2_with fail
    go_ret
    exact ⟨by simp [h1], rfl⟩
  · have h2 : decide (1 ≤ n) = false := by simpa using h1
    go_enter Tryz.func59, Tryz.ntmps59
    go_wp2_with fail
    go_ret
    exact ⟨by simp, rfl⟩
theorem in_yes {n lo hi : Int} (h : lo ≤ n ∧ n ≤ hi) : (decide (lo ≤ n) && decide (n ≤ hi)) = true := by simp [h.1, h.2]
theorem in_no {n lo hi : Int} (h : ¬ (lo ≤ n ∧ n ≤ hi)) : (decide (lo ≤ n) && decide (n ≤ hi)) = false := by
  rw [Bool.and_eq_false_iff, decide_eq_false_iff_not, decide_eq_false_iff_not]; omega
theorem RD.put {w w2 : World} {b base n : Nat} {most : Int} {ks : List (Int × Rp)} (h : RD w b base n most ks) {id : Int} {g cp : Nat} {f : Nat → Bool} {a : Option Addr} {cap : Nat}
    (h1 : Blk w2 b #[.int .i64 n, .int .i64 most, .slice a (putL ks id (⟨g, cp, f⟩ : Rp)).length cap] TBd) (h2 : w2.ownsRow base THs 2 (.slice a (putL ks id (⟨g, cp, f⟩ : Rp)).length cap) (putL ks id (⟨g, cp, f⟩ : Rp)).length (hvL n (putL ks id ⟨g, cp, f⟩)))
    (hX : ∀ X, a = some X → X.block ≠ g ∧ ∀ q ∈ ks, X.block ≠ q.2.g) (hs : ∀ q ∈ ks, w2.ownsRow base 4 1 (.slice (some ⟨q.2.g, 0, none⟩) n q.2.cap) n (booL n q.2.f)) (ho : w2.ownsRow base 4 1 (.slice (some ⟨g, 0, none⟩) n cp) n (booL n f)) (hg : ∀ q ∈ ks, q.2.g ≠ g) : RD w2 b base n most (putL ks id ⟨g, cp, f⟩) := by
  refine ⟨h.lt, ⟨a, cap, h1, h2, fun q hq X e => ?_⟩, fun q hq => ?_, ?_⟩
  · rcases mem_putO hq with rfl | hq
    · exact (hX X e).1
    · exact (hX X e).2 q hq
  · rcases mem_putO hq with rfl | hq
    · exact ho
    · exact hs q hq
  · unfold putL
    exact pairwise_insS _ (h.two.filter _) (fun q hq => (hg q (List.mem_filter.1 hq).1).symm) (fun q hq => hg q (List.mem_filter.1 hq).1)
theorem hvL_set (n : Nat) (x : Int) (r r' : Rp) : ∀ (l : List (Int × Rp)) (k : Nat), l[k]? = some (x, r) → (hvL n l).set (k * 2 + 1) (.slice (some ⟨r'.g, 0, none⟩) n r'.cap) = hvL n (l.set k (x, r'))
  | [], k, h => by simp at h
  | y :: t, 0, h => by
    simp at h
    subst h
    rfl
  | y :: t, k + 1, h => by
    have := hvL_set n x r r' t k (by simpa using h)
    rw [List.set_cons_succ, hvL_cons, hvL_cons, ← this, show (k + 1) * 2 + 1 = (hvC n y).length + (k * 2 + 1) by simp [hvC]; omega, List.set_append_right _ _ (by omega)]
    simp
theorem rset_sl {w : World} {s sg n : Nat} {f : Nat → Bool} (h : RSet w s sg n f) : ∃ c, w.cell? ⟨s, 0, none⟩ = some (.slice (some ⟨sg, 0, none⟩) n c) ∧ Sl w (.slice (some ⟨sg, 0, none⟩) n c) 1 n (booL n f) := by
  obtain ⟨c, h0⟩ := h.s0
  refine ⟨c, h0, .inr ⟨_, c, rfl, by rw [booL_len, Nat.mul_one], fun j u hj => ?_⟩⟩
  unfold booL at hj
  rw [List.getElem?_map] at hj
  have hjn : j < n := by
    rcases Nat.lt_or_ge j n with hh | hh
    · exact hh
    · rw [List.getElem?_eq_none (by simpa using hh)] at hj; cases hj
  rw [List.getElem?_range hjn] at hj
  simp at hj
  subst hj
  rw [add_g]
  exact (h.at hjn).1

set_option maxRecDepth 100000 in
set_option maxHeartbeats 4000000 in
theorem refRSetBad (id : Int) (so : Option Nat) (b base n : Nat) (most : Int) (ks : List (Int × Rp)) (w : World) (h : RD w b base n most ks) (hbad : ¬ (1 ≤ id ∧ id ≤ 65536) ∨ so = none ∨ ∃ s sg n' f, so = some s ∧ RSet w s sg n' f ∧ n' ≠ n) :
    Calls Tryz.prog 30 #[.pointer (some ⟨b, 0, none⟩), .int .i64 id, .pointer (so.map fun s => ⟨s, 0, none⟩)] w fun e w' => e = .returned (.int .i64 1) ∧ Mod (fun _ => False) w w' := by
  obtain ⟨a, cap, c0, _, c2, _, _, _, _, _⟩ := h.at
  clear h
  by_cases hp : 1 ≤ id ∧ id ≤ 65536
  · have e1 := in_yes hp
    rcases hbad with hbad | rfl | ⟨s, sg, n', f, rfl, hs, hne⟩
    · exact absurd hp hbad
    · show Calls Tryz.prog 30 #[.pointer (some ⟨b, 0, none⟩), .int .i64 id, .pointer none] w _
      clear hp
      go_enter Tryz.func30, Tryz.ntmps30
      go_wp2_with fail
      refine (refId _ _).mono ?_; rw [e1]; rintro e w' ⟨rfl, rfl⟩
      clear e1
      go_upto_region 2 with fail
      go_quiet (fail)
      go_wp2_with fail
      go_ret
      exact ⟨rfl, (Mod.refl _ w).drewN _⟩
    · show Calls Tryz.prog 30 #[.pointer (some ⟨b, 0, none⟩), .int .i64 id, .pointer (some ⟨s, 0, none⟩)] w _
      obtain ⟨c, d0, _⟩ := rset_sl hs
      have hnn : ((n' : Int) != (n : Int)) = true := by simp; omega
      clear hs hne hp
      go_enter Tryz.func30, Tryz.ntmps30
      go_wp2_with fail
      refine (refId _ _).mono ?_; rw [e1]; rintro e w' ⟨rfl, rfl⟩
      clear e1
      go_upto_region 2 with fail
      go_quiet (fail)
      go_wp2_with fail
      go_ret
      exact ⟨rfl, (Mod.refl _ w).drewN _⟩
  · have e1 := in_no hp
    clear hbad hp
    go_enter Tryz.func30, Tryz.ntmps30
    go_wp2_with fail
    refine (refId _ _).mono ?_; rw [e1]; rintro e w' ⟨rfl, rfl⟩
    clear e1
    go_upto_region 2 with fail
    go_quiet (fail)
    go_wp2_with fail
    go_ret
    exact ⟨rfl, (Mod.refl _ w).drewN _⟩

set_option maxRecDepth 100000 in
set_option maxHeartbeats 4000000 in
theorem refRSetFull (id : Int) (s sg b base n : Nat) (most : Int) (ks : List (Int × Rp)) (f : Nat → Bool) (w : World) (h : RD w b base n most ks) (hs : RSet w s sg n f) (hlen : ks.length ≤ 999) (hr : Rising ks) (hbase : base ≤ w.heap.size) (hn : 1 ≤ n ∧ n ≤ 1024) (hp : 1 ≤ id ∧ id ≤ 65536) (hno : lkL ks id = none) (hroom : most ≤ (ks.length : Int)) :
    Calls Tryz.prog 30 #[.pointer (some ⟨b, 0, none⟩), .int .i64 id, .pointer (some ⟨s, 0, none⟩)] w fun e w' => e = .returned (.int .i64 3) ∧ Mod (fun _ => False) w w' := by
  have HNO := Lib.hid hno
  clear hno
  obtain ⟨a0, cap0, c0, _, _, _, _, _, _, _⟩ := h.at
  obtain ⟨cs, d0, hsl⟩ := rset_sl hs
  have hnn : ((n : Int) != (n : Int)) = false := by simp
  have e1 := in_yes hp
  have H := Lib.hid h
  have HSL := Lib.hid hsl
  have D0 := Lib.hid d0
  have HR := Lib.hid hr
  have HN := Lib.hid hn
  have HBA := Lib.hid hbase
  clear h hs hsl hr hp hbase
  go_enter Tryz.func30, Tryz.ntmps30
  go_wp2_with fail
  refine (refId _ _).mono ?_; rw [e1]; rintro e w' ⟨rfl, rfl⟩
  clear e1
  go_upto_region 2 with fail
  go_quiet (fail)
  have md := (Mod.refl (fun _ => False) w).drewN nq
  have H1 := Lib.hid (H.out.new md)
  have HSL1 := Lib.hid (HSL.out.mod md (fun _ _ _ _ h => h))
  have M1 := Lib.hid md
  clear md c0 d0
  have d0 : (w.drewN nq).cell? ⟨s, 0, none⟩ = some (.slice (some ⟨sg, 0, none⟩) n cs) := D0.out
  generalize w.drewN nq = w1 at *
  have ma := (Mod.refl (fun _ => False) w1).alloc (.cells #[] 4)
  have d1 := ma.cell d0 (fun h => h)
  clear ma
  go_upto_region 5 with (at_builtin; refine appS (base := w1.heap.size) rfl (.tmp 32) (.tmp 36) TBl 4 1 rfl Tryz.underlying95 infoBool rfl (by decide) _ _ _ _ n (booL n f) (by simp) (owns_empty _ _ _ _ (Nat.le_refl _)) rfl rfl (HSL1.out.mod ((Mod.refl (fun _ => False) w1).alloc _) (fun _ _ _ _ h => h)) (booL_one _ _) (by decide) (by have := HN.out; omega) ?_; intro v1 w4 o1 n1; rw [Nat.zero_add, List.nil_append] at o1; obtain ⟨g, cp, rfl⟩ := own_some o1 HN.out.1; have O4 := Lib.hid o1; have N4 := Lib.hid ((((Mod.refl (fun i => w1.heap.size ≤ i) w1).alloc (.cells #[] 4))).trans n1); clear o1 n1)
  have m4 := N4.out.mono (S' := fun _ => False) (fun i hi (e : w1.heap.size ≤ i) => by omega)
  have H4 := Lib.hid (H1.out.new m4)
  have M4 := Lib.hid (M1.out.trans m4)
  have HG4 := Lib.hid (show w1.heap.size ≤ g ∧ g < w4.heap.size from O4.out.lt g rfl)
  have HGQ : Hid (∀ q ∈ ks, q.2.g ≠ g) := fun q hq => by have := (H1.out.sets q hq).lt q.2.g rfl; have := HG4.out; omega
  have HBW := Lib.hid (show base ≤ w1.heap.size by have := M1.out.size; have := HBA.out; omega)
  clear m4 d0 d1 hnn
  have HF := Lib.hid (refRFindNo id b base n most ks w4 H4.out HR.out (by omega) HNO.out)
  go_wp2_with fail
  refine HF.out.mono ?_; rintro e w' ⟨rfl, rfl⟩
  obtain ⟨a, cap, _, c1, c2, _, _, _, _, _⟩ := H4.out.at
  go_upto_region 9 with fail
  go_quiet (fail)
  go_wp2_with fail
  go_ret
  exact ⟨rfl, M4.out.drewN _⟩

/-- What is known behind Set: the same, but of this one. -/
def SetR (n : Nat) (f : Nat → Bool) (b base : Nat) (most : Int) (ks : List (Int × Rp)) (id : Int) (w : World) (e : Ending) (w' : World) : Prop :=
  e = .returned (.int .i64 0) ∧ ∃ g cp, StepR n b base most ks (putL ks id ⟨g, cp, f⟩) w w'
set_option maxRecDepth 100000 in
set_option maxHeartbeats 4000000 in
theorem refRSetKnown (id : Int) (i : Nat) (r : Rp) (s sg b base n : Nat) (most : Int) (ks : List (Int × Rp)) (f : Nat → Bool) (w : World) (h : RD w b base n most ks) (hs : RSet w s sg n f) (hlen : ks.length ≤ 999) (hr : Rising ks) (hbase : base ≤ w.heap.size) (hn : 1 ≤ n ∧ n ≤ 1024) (hp : 1 ≤ id ∧ id ≤ 65536) (hi : ks[i]? = some (id, r)) :
    Calls Tryz.prog 30 #[.pointer (some ⟨b, 0, none⟩), .int .i64 id, .pointer (some ⟨s, 0, none⟩)] w (SetR n f b base most ks id w) := by
  have HI := Lib.hid hi
  have hi1 : decide ((i : Int) < 0) = false := by simp
  have hi0 : (0 : Int) ≤ (i : Int) := by omega
  have hil2 : i < ks.length := (List.getElem?_eq_some_iff.1 hi).1
  have hil : (i : Int) < ks.length := by omega
  clear hi
  obtain ⟨a0, cap0, c0, _, _, _, _, _, _, _⟩ := h.at
  obtain ⟨cs, d0, hsl⟩ := rset_sl hs
  have hnn : ((n : Int) != (n : Int)) = false := by simp
  have e1 := in_yes hp
  have H := Lib.hid h
  have HSL := Lib.hid hsl
  have D0 := Lib.hid d0
  have HR := Lib.hid hr
  have HN := Lib.hid hn
  have HBA := Lib.hid hbase
  clear h hs hsl hr hp hbase
  go_enter Tryz.func30, Tryz.ntmps30
  go_wp2_with fail
  refine (refId _ _).mono ?_; rw [e1]; rintro e w' ⟨rfl, rfl⟩
  clear e1
  go_upto_region 2 with fail
  go_quiet (fail)
  have md := (Mod.refl (fun _ => False) w).drewN nq
  have H1 := Lib.hid (H.out.new md)
  have HSL1 := Lib.hid (HSL.out.mod md (fun _ _ _ _ h => h))
  have M1 := Lib.hid md
  clear md c0 d0
  have d0 : (w.drewN nq).cell? ⟨s, 0, none⟩ = some (.slice (some ⟨sg, 0, none⟩) n cs) := D0.out
  generalize w.drewN nq = w1 at *
  have ma := (Mod.refl (fun _ => False) w1).alloc (.cells #[] 4)
  have d1 := ma.cell d0 (fun h => h)
  clear ma
  go_upto_region 5 with (at_builtin; refine appS (base := w1.heap.size) rfl (.tmp 32) (.tmp 36) TBl 4 1 rfl Tryz.underlying95 infoBool rfl (by decide) _ _ _ _ n (booL n f) (by simp) (owns_empty _ _ _ _ (Nat.le_refl _)) rfl rfl (HSL1.out.mod ((Mod.refl (fun _ => False) w1).alloc _) (fun _ _ _ _ h => h)) (booL_one _ _) (by decide) (by have := HN.out; omega) ?_; intro v1 w4 o1 n1; rw [Nat.zero_add, List.nil_append] at o1; obtain ⟨g, cp, rfl⟩ := own_some o1 HN.out.1; have O4 := Lib.hid o1; have N4 := Lib.hid ((((Mod.refl (fun i => w1.heap.size ≤ i) w1).alloc (.cells #[] 4))).trans n1); clear o1 n1)
  have m4 := N4.out.mono (S' := fun _ => False) (fun i hi (e : w1.heap.size ≤ i) => by omega)
  have H4 := Lib.hid (H1.out.new m4)
  have M4 := Lib.hid (M1.out.trans m4)
  have HG4 := Lib.hid (show w1.heap.size ≤ g ∧ g < w4.heap.size from O4.out.lt g rfl)
  have HGQ : Hid (∀ q ∈ ks, q.2.g ≠ g) := fun q hq => by have := (H1.out.sets q hq).lt q.2.g rfl; have := HG4.out; omega
  have HBW := Lib.hid (show base ≤ w1.heap.size by have := M1.out.size; have := HBA.out; omega)
  clear m4 d0 d1 hnn
  have HF := Lib.hid (refRFindAt id i r b base n most ks w4 H4.out HR.out (by omega) HI.out)
  obtain ⟨a, cap, _, _, c2, he, hbk, ho, _, hX⟩ := H4.out.at
  rcases ho.out.2 with ⟨h1, h2⟩ | ⟨gr, cap', cur, hv, hg, hgh, _⟩
  · simp only [Value.slice.injEq] at h1
    omega
  · cases hv
    obtain ⟨X, hX', p0, p1⟩ := hvEl he.out (Nat.le_refl _) HI.out
    cases hX'
    have hst := (ho.out.stored (i * 2 + 1) (.slice (some ⟨g, 0, none⟩) n cp)).1
    have hset := hvL_set n id r ⟨g, cp, f⟩ ks i HI.out
    simp only at hset
    rw [hset] at hst
    have hm := (Mod.refl (· = gr) w4).set1 (i * 2 + 1) (.slice (some ⟨g, 0, none⟩) n cp)
    have hlt := H4.out.lt
    have hput := put_at HR.out HI.out (⟨g, cp, f⟩ : Rp)
    have hlp : (putL ks id (⟨g, cp, f⟩ : Rp)).length = ks.length := by rw [hput]; simp
    have hgr : gr < w1.heap.size := by
      have h5 := H1.out.at
      obtain ⟨a5, cap5, _, _, k5, _, _, ho5, _, _⟩ := h5
      have h6 := H4.out.at
      have e5 : w4.cell? ⟨b, 2, none⟩ = some (.slice a5 ks.length cap5) := (N4.out.mono (S' := fun _ => False) (fun i hi (e : w1.heap.size ≤ i) => by omega)).cell k5 (fun h => h)
      rw [c2] at e5
      simp only [Option.some.injEq, Value.slice.injEq] at e5
      have h7 := (ho5.out.lt gr (by rw [← e5.1]; rfl)).2
      exact h7
    have hRD := H4.out.put (id := id) (g := g) (cp := cp) (f := f) (a := some ⟨gr, 0, none⟩) (cap := cap) (w2 := w4.setCell ⟨gr, i * 2 + 1, none⟩ (.slice (some ⟨g, 0, none⟩) n cp)) (by rw [hlp]; exact hbk.out.mod hm (by omega)) (by rw [hlp, hput]; exact hst)
      (fun X e => by cases e; exact ⟨by have := HG4.out; show gr ≠ g; omega, fun q hq => hX.out q hq _ rfl⟩)
      (fun q hq => owns_off (H4.out.sets q hq) hm (fun e => by simp [Value.ownBlock] at e; exact hX.out q hq _ rfl e.symm))
      (owns_off (O4.out.mono HBW.out) hm (fun e => by simp [Value.ownBlock] at e; have := HG4.out; omega)) HGQ.out
    have HRD := Lib.hid hRD
    have hcw : w.cell? ⟨b, 2, none⟩ = some (.slice (some ⟨gr, 0, none⟩) ks.length cap) := by
      obtain ⟨a5, cap5, _, _, k5, _, _, _, _, _⟩ := H.out.at
      have := M4.out.cell k5 (fun h => h)
      rw [c2] at this
      rw [k5, this]
    have HMM := Lib.hid ((M4.out.mono (S' := RDb w b ks) (fun _ _ h => h.elim)).trans (hm.mono (fun j _ e => .inr (.inl ⟨_, _, _, hcw, e⟩))))
    have HBD : Hid (∀ q, RDb (w4.setCell ⟨gr, i * 2 + 1, none⟩ (.slice (some ⟨g, 0, none⟩) n cp)) b (putL ks id ⟨g, cp, f⟩) q → RDb w b ks q ∨ w.heap.size ≤ q) := by
      intro q hq
      rcases hq with e | ⟨X', m, c, hx, e⟩ | ⟨q', hq', e⟩
      · exact .inl (.inl e)
      · have hc := hm.cell c2 (show ¬ b = gr by omega)
        rw [hc] at hx
        exact .inl (.inr (.inl ⟨X', m, c, by rw [hcw]; exact hx, e⟩))
      · rcases mem_putO hq' with rfl | hq'
        · exact .inr (by have := HG4.out; have := M1.out.size; simp only at e; omega)
        · exact .inl (.inr (.inr ⟨q', hq', e⟩))
    have q1 : w4.cell? ⟨gr, i * 2 + 1, none⟩ = some (.slice (some ⟨r.g, 0, none⟩) n r.cap) := by
      rw [ho.out.cellAt (i * 2 + 1) (by omega)]
      exact hvL_get n ks i 1 (id, r) HI.out (by decide)
    have q2 : w4.frozen? ⟨gr, i * 2 + 1, none⟩ = false := ho.out.frozenAt _
    clear hst hset hm hput hlp hRD p0 p1 hgh hgr hlt
    go_wp2_with fail
    refine HF.out.mono ?_; rintro e w' ⟨rfl, rfl⟩
    go_wp2_with fail
    go_ret
    exact ⟨rfl, g, cp, HRD.out, HMM.out, HBD.out⟩
end Go.Proofs.YtjmfhcliggjdgaaGreatDoor

/- The reference of rarest: Set of one that is not known; no condition. -/
namespace Go.Proofs.YtjmfhcliggjdgaaGreatDoor
open Go Go.RowKit

set_option maxRecDepth 100000 in
set_option maxHeartbeats 4000000 in
theorem refRSetNew (id : Int) (s sg b base n : Nat) (most : Int) (ks : List (Int × Rp)) (f : Nat → Bool) (w : World) (h : RD w b base n most ks) (hs : RSet w s sg n f) (hlen : ks.length ≤ 999) (hr : Rising ks) (hbase : base ≤ w.heap.size) (hn : 1 ≤ n ∧ n ≤ 1024) (hp : 1 ≤ id ∧ id ≤ 65536) (hno : lkL ks id = none) (hroom : (ks.length : Int) < most) :
    Calls Tryz.prog 30 #[.pointer (some ⟨b, 0, none⟩), .int .i64 id, .pointer (some ⟨s, 0, none⟩)] w (SetR n f b base most ks id w) := by
  have HNO := Lib.hid hno
  clear hno
  obtain ⟨a0, cap0, c0, _, _, _, _, _, _, _⟩ := h.at
  obtain ⟨cs, d0, hsl⟩ := rset_sl hs
  have hnn : ((n : Int) != (n : Int)) = false := by simp
  have e1 := in_yes hp
  have H := Lib.hid h
  have HSL := Lib.hid hsl
  have D0 := Lib.hid d0
  have HR := Lib.hid hr
  have HN := Lib.hid hn
  have HBA := Lib.hid hbase
  clear h hs hsl hr hp hbase
  go_enter Tryz.func30, Tryz.ntmps30
  go_wp2_with fail
  refine (refId _ _).mono ?_; rw [e1]; rintro e w' ⟨rfl, rfl⟩
  clear e1
  go_upto_region 2 with fail
  go_quiet (fail)
  have md := (Mod.refl (fun _ => False) w).drewN nq
  have H1 := Lib.hid (H.out.new md)
  have HSL1 := Lib.hid (HSL.out.mod md (fun _ _ _ _ h => h))
  have M1 := Lib.hid md
  clear md c0 d0
  have d0 : (w.drewN nq).cell? ⟨s, 0, none⟩ = some (.slice (some ⟨sg, 0, none⟩) n cs) := D0.out
  generalize w.drewN nq = w1 at *
  have ma := (Mod.refl (fun _ => False) w1).alloc (.cells #[] 4)
  have d1 := ma.cell d0 (fun h => h)
  clear ma
  go_upto_region 5 with (at_builtin; refine appS (base := w1.heap.size) rfl (.tmp 32) (.tmp 36) TBl 4 1 rfl Tryz.underlying95 infoBool rfl (by decide) _ _ _ _ n (booL n f) (by simp) (owns_empty _ _ _ _ (Nat.le_refl _)) rfl rfl (HSL1.out.mod ((Mod.refl (fun _ => False) w1).alloc _) (fun _ _ _ _ h => h)) (booL_one _ _) (by decide) (by have := HN.out; omega) ?_; intro v1 w4 o1 n1; rw [Nat.zero_add, List.nil_append] at o1; obtain ⟨g, cp, rfl⟩ := own_some o1 HN.out.1; have O4 := Lib.hid o1; have N4 := Lib.hid ((((Mod.refl (fun i => w1.heap.size ≤ i) w1).alloc (.cells #[] 4))).trans n1); clear o1 n1)
  have m4 := N4.out.mono (S' := fun _ => False) (fun i hi (e : w1.heap.size ≤ i) => by omega)
  have H4 := Lib.hid (H1.out.new m4)
  have M4 := Lib.hid (M1.out.trans m4)
  have HG4 := Lib.hid (show w1.heap.size ≤ g ∧ g < w4.heap.size from O4.out.lt g rfl)
  have HGQ : Hid (∀ q ∈ ks, q.2.g ≠ g) := fun q hq => by have := (H1.out.sets q hq).lt q.2.g rfl; have := HG4.out; omega
  have HBW := Lib.hid (show base ≤ w1.heap.size by have := M1.out.size; have := HBA.out; omega)
  clear m4 d0 d1 hnn
  have HF := Lib.hid (refRFindNo id b base n most ks w4 H4.out HR.out (by omega) HNO.out)
  have hrm : decide (most ≤ (ks.length : Int)) = false := by simp; omega
  go_wp2_with fail
  refine HF.out.mono ?_; rintro e w' ⟨rfl, rfl⟩
  obtain ⟨a', cap', _, c1, c2, _, _, _, _, _⟩ := H4.out.at
  go_upto_region 9 with fail
  go_quiet (fail)
  have md := (Mod.refl (fun _ => False) w4).drewN nq
  have H5 := Lib.hid (H4.out.new md)
  have M5 := Lib.hid (M4.out.trans md)
  have O5 := Lib.hid (owns_new O4.out md)
  have HG5 := Lib.hid (show g < (w4.drewN nq).heap.size from HG4.out.2)
  have HNID : Hid (∀ q ∈ ks, q.1 ≠ id) := lk_none.1 HNO.out
  obtain ⟨k2, hk2⟩ : ∃ k2, k2 = putL ks id (⟨g, cp, f⟩ : Rp) := ⟨_, rfl⟩
  have HI2 : Hid (k2 = insS (id, (⟨g, cp, f⟩ : Rp)) ks) := by show _ = _; rw [hk2]; unfold putL; rw [del_of_none HNO.out]
  have HK2 := Lib.hid hk2
  have M1S := Lib.hid (show w.heap.size ≤ w1.heap.size from M1.out.size)
  clear md c1 c2 hrm hk2 HF H4 M4 O4 H1 M1 N4 HSL HSL1 H D0
  generalize w4.drewN nq = w3 at *
  go_upto_block 0 with fail
  go_cut [10] from 61 to 81 (fun v wx => ∃ j : Nat, v = .int .i64 j ∧ j ≤ ks.length ∧ Hid (k2 = ks.take j ++ (id, (⟨g, cp, f⟩ : Rp)) :: ks.drop j) ∧ Hid (Mod (fun _ => False) w3 wx))
  case first =>
    go_wp2_with fail
    go_loopw [10] (fun v wr => ∃ j : Nat, v = .int .i64 j ∧ j ≤ ks.length ∧ Hid (∀ (i : Nat) (q : Int × Rp), i < j → ks[i]? = some q → q.1 < id) ∧ Hid (Mod (fun _ => False) w3 wr)) (fun v _ => ks.length - (intOf v).toNat)
    case atStart => exact ⟨0, rfl, Nat.zero_le _, fun i q h => absurd h (Nat.not_lt_zero _), Mod.refl _ _⟩
    case round =>
      obtain ⟨j, rfl, hj, hlow, hm⟩ := hrel
      obtain ⟨a, cap, _, _, c2, he, _, _, _, _⟩ := (H5.out.new hm.out).at
      by_cases hlt : (j : Int) < ks.length
      · obtain ⟨⟨x, r⟩, hkr⟩ : ∃ q, ks[j]? = some q := ⟨_, List.getElem?_eq_getElem (by omega)⟩
        obtain ⟨X, rfl, p0, p1⟩ := hvEl he.out (Nat.le_refl _) hkr
        dsimp only at p0 p1
        by_cases e : x < id
        · have HL : Hid (∀ (i : Nat) (q : Int × Rp), i < j + 1 → ks[i]? = some q → q.1 < id) := by
            intro i q hi hq
            by_cases ej : i = j
            · subst ej
              rw [hkr] at hq
              cases hq
              exact e
            · exact hlow.out i q (by omega) hq
          have hjl : j < ks.length := by omega
          clear hkr
          go_wp2_with fail
          exact ⟨⟨j + 1, by go_num, by omega, HL, hm⟩, by simp [intOf]; omega⟩
        · have hP : k2 = ks.take j ++ (id, (⟨g, cp, f⟩ : Rp)) :: ks.drop j := by
            rw [HI2.out]
            refine ins_at _ ks j hlow.out hj fun q hq => ?_
            rw [hkr] at hq
            cases hq
            have := HNID.out (x, r) (List.mem_of_getElem? hkr)
            show id < x
            simp only at this
            omega
          have HP := Lib.hid hP
          have e' : decide (x < id) = false := by simpa using e
          have hjl : j < ks.length := by omega
          clear hkr hP
          go_wp2_with fail
          go_meet
          exact ⟨j, rfl, hj, HP, hm⟩
      · have hP : k2 = ks.take j ++ (id, (⟨g, cp, f⟩ : Rp)) :: ks.drop j := by
          rw [HI2.out]
          refine ins_at _ ks j hlow.out hj fun q hq => ?_
          have := (List.getElem?_eq_some_iff.1 hq).1
          omega
        have HP := Lib.hid hP
        have hlt' : decide ((j : Int) < ks.length) = false := by simpa using hlt
        have hlt2 : decide (j < ks.length) = false := by simp; omega
        clear hP
        go_wp2_with fail
        go_meet
        exact ⟨j, rfl, hj, HP, hm⟩
  case rest =>
    obtain ⟨j, rfl, hj, HP, hm⟩ := hcut
    have T4 := Lib.hid (H5.out.new hm.out)
    have M6 := Lib.hid (M5.out.trans hm.out)
    have O6 := Lib.hid (owns_new O5.out hm.out)
    have HG6 := Lib.hid (show g < wc.heap.size by have := HG5.out; have := hm.out.size; omega)
    clear hm H5 M5 O5 HG5
    generalize wc = w3' at *
    obtain ⟨a, cap, _, _, c3, he, hbk, ho, hcap, _⟩ := T4.out.at
    obtain ⟨B0, hB0⟩ : ∃ B, B = w3'.heap.size := ⟨_, rfl⟩
    have HB0 := Lib.hid hB0
    have hbl : b < B0 := by rw [hB0]; exact hbk.out.lt
    have hbl3 : b < w3'.heap.size := hbk.out.lt
    have HBB := Lib.hid (show base ≤ B0 by rw [hB0]; exact Nat.le_trans HBA.out M6.out.size)
    have TK := Lib.hid (hvL_takeN n ks j)
    have TD := Lib.hid (hvL_dropN n ks j)
    have hjc : (j : Int) ≤ cap := by omega
    have hjc2 : (ks.length : Int) ≤ cap := by omega
    have HCAP : Hid (a = none → ks = [] ∧ cap = 0) := by
      intro h
      subst h
      rcases ho.out.2 with ⟨h1, h2⟩ | ⟨g, c, cur, h, _⟩
      · simp only [Value.slice.injEq] at h1
        exact ⟨List.length_eq_zero_iff.1 h1.2.1, h1.2.2⟩
      · cases h
    clear hB0
    go_upto_region 14 with fail
    go_cut [11] from 82 to 89 (fun v wx => Hid (wx.ownsRow B0 THs 2 v j (hvL n (ks.take j))) ∧ Hid (Mod (fun i => B0 ≤ i) w3' wx))
    case first =>
      cases a with
      | some X =>
        go_wp2_with (at_builtin; refine appS (base := B0) rfl (.tmp 82) (.tmp 88) THl THs 2 rfl Tryz.underlying98 infoHs rfl (by decide) _ _ _ _ j (hvL n (ks.take j)) (by have := HB0.out; simp; omega) (owns_empty _ _ _ _ (Nat.le_of_eq HB0.out)) rfl rfl (by rw [TK.out]; exact (ho.out.sl.alloc _).head (by omega)) (hvL_one _ _) (by decide) (by omega) ?_; intro v1 w4 o1 n1; have O1 := Lib.hid o1; have N1 := Lib.hid ((((Mod.refl (fun i => B0 ≤ i) w3').alloc (.cells #[] THs))).trans n1); clear o1 n1)
        go_meet
        exact ⟨by simpa using O1, N1⟩
      | none =>
        obtain ⟨h1, h2⟩ := HCAP.out rfl
        have hj0 : j = 0 := by rw [h1] at hj; simpa using hj
        have HK0 := Lib.hid h1
        subst hj0
        subst h2
        clear h1
        go_wp2_with (at_builtin; refine appS (base := B0) rfl (.tmp 82) (.tmp 88) THl THs 2 rfl Tryz.underlying98 infoHs rfl (by decide) _ _ _ _ 0 [] (by have := HB0.out; simp; omega) (owns_empty _ _ _ _ (Nat.le_of_eq HB0.out)) rfl rfl (Sl.nil _ _) (by simp) (by decide) (by omega) ?_; intro v1 w4 o1 n1; have O1 := Lib.hid o1; have N1 := Lib.hid ((((Mod.refl (fun i => B0 ≤ i) w3').alloc (.cells #[] THs))).trans n1); clear o1 n1)
        go_meet
        refine ⟨?_, N1⟩
        show World.ownsRow _ _ _ _ _ _ _
        simpa [hvL] using O1.out
    case rest =>
      obtain ⟨O1, N1⟩ := hcut
      obtain ⟨a1, cap1, rfl, _, _, _⟩ := O1.out.els
      have hB4 : B0 ≤ wc.heap.size := by have := N1.out.size; have := HB0.out; omega
      go_upto_region 16 with (at_builtin; refine appS (base := B0) rfl (.tmp 90) (.tmp 94) THl THs 2 rfl Tryz.underlying98 infoHs rfl (by decide) _ _ _ _ 1 [.int .i64 id, .slice (some ⟨g, 0, none⟩) n cp] (by simp; omega) (owns_new O1.out ((Mod.refl (fun _ => False) wc).alloc _)) rfl rfl (sl_new wc _ _) (by simp [Value.oneCell']) (by decide) (by omega) ?_; intro v2 w5 o2 n2; have O2 := Lib.hid o2; have N2 := Lib.hid ((N1.out.alloc (.cells #[.int .i64 id, .slice (some ⟨g, 0, none⟩) n cp] THs)).trans n2); have hB5 : B0 ≤ w5.heap.size := (by have := N2.out.size; have := HB0.out; omega); have k3 := N2.out.cell c3 (by show ¬ B0 ≤ b; omega); clear o2 n2)
      have HK5 := Lib.hid (hbk.out.mod N2.out (by show ¬ B0 ≤ b; omega))
      have HSL5 := Lib.hid (ho.out.sl.mod N2.out (by
        intro x n c hv hx
        have := ho.out.blk x n c hv
        have := HB0.out
        omega))
      clear O1 N1 c3
      have fin : ∀ (w6 : World) (a3 : Option Addr) (cap3 : Nat), w6.ownsRow B0 THs 2 (.slice a3 k2.length cap3) k2.length (hvL n k2) → Mod (fun i => B0 ≤ i) w3' w6 → RD (w6.setCell ⟨b, 2, none⟩ (.slice a3 k2.length cap3)) b base n most k2 ∧ Mod (RDb w b ks) w (w6.setCell ⟨b, 2, none⟩ (.slice a3 k2.length cap3)) ∧ ∀ q, RDb (w6.setCell ⟨b, 2, none⟩ (.slice a3 k2.length cap3)) b k2 q → RDb w b ks q ∨ w.heap.size ≤ q := by
        intro w6 a3 cap3 o3 n3
        have hm6 := (Mod.refl (· = b) w6).set1 2 (.slice a3 k2.length cap3)
        have hlt := T4.out.lt
        have hB := HB0.out
        refine ⟨?_, ((M6.out.mono (S' := RDb w b ks) (fun _ _ h => h.elim)).trans (n3.mono (fun i hi (e : B0 ≤ i) => by omega))).trans (hm6.mono (fun i _ e => .inl e)), fun q hq => ?_⟩
        rotate_left
        · rcases hq with e | ⟨X', m, c, hx, e⟩ | ⟨q', hq', e⟩
          · exact .inl (.inl e)
          · have hc := ((hbk.out.mod n3 (by show ¬ B0 ≤ b; omega)).set 2 (.slice a3 k2.length cap3)).cell 2
            rw [hc] at hx
            simp at hx
            obtain ⟨rfl, _, _⟩ := hx
            have h4 := (o3.blk X' _ _ rfl).1
            exact .inr (by have := M6.out.size; omega)
          · rw [HK2.out] at hq'
            rcases mem_putO hq' with rfl | hq'
            · exact .inr (by have := HG4.out; have := M1S.out; simp only at e; omega)
            · exact .inl (.inr (.inr ⟨q', hq', e⟩))
        have h3 := T4.out.put (id := id) (g := g) (cp := cp) (f := f) (a := a3) (cap := cap3) (w2 := w6.setCell ⟨b, 2, none⟩ (.slice a3 k2.length cap3))
        rw [← HK2.out] at h3
        refine h3 ((hbk.out.mod n3 (by show ¬ B0 ≤ b; omega)).set 2 _) ((owns_modG (S := (· = b)) o3 hm6 (fun i hi e => by omega)).mono HBB.out) (fun X hX => ?_) (fun q hq => ?_) ?_ HGQ.out
        · subst hX
          have h4 := o3.blk X _ _ rfl
          refine ⟨by have := HG6.out; omega, fun q hq => ?_⟩
          have := (T4.out.sets q hq).lt q.2.g rfl
          omega
        · have h5 := (T4.out.sets q hq).lt q.2.g rfl
          refine owns_off (owns_apart (v := .slice (some ⟨q.2.g + w6.heap.size + 1, 0, none⟩) 0 0) (T4.out.sets q hq) (n3.mono fun i hi (e : B0 ≤ i) => by omega) (fun k h1 h2 => by simp [Value.ownBlock] at h1 h2; omega)) hm6 (fun e => by simp [Value.ownBlock] at e; omega)
        · have h5 := O6.out.lt g rfl
          refine owns_off (owns_apart (v := .slice (some ⟨g + w6.heap.size + 1, 0, none⟩) 0 0) (O6.out.mono (by have := HBW.out; omega)) (n3.mono fun i hi (e : B0 ≤ i) => by omega) (fun k h1 h2 => by simp [Value.ownBlock] at h1 h2; omega)) hm6 (fun e => by simp [Value.ownBlock] at e; have := HBW.out; omega)
      have FIN := Lib.hid fin
      clear fin
      cases a with
      | some X =>
        go_wp2_with (at_builtin; refine appS (base := B0) rfl (.tmp 97) (.tmp 103) THl THs 2 rfl Tryz.underlying98 infoHs rfl (by decide) _ _ _ _ (ks.length - j) (hvL n (ks.drop j)) hB5 O2.out rfl rfl (by rw [TD.out]; first | exact HSL5.out.tail (by omega) hcap | exact HSL5.out.tailN (by omega) hcap) (hvL_one _ _) (by decide) (by omega) ?_; intro v3 w6 o3 n3; obtain ⟨a3, cap3, rfl, _, _, _⟩ := o3.els; have O3 := Lib.hid o3; have N3 := Lib.hid (N2.out.trans n3); have k33 := N3.out.cell (hbk.out.cell 2) (by show ¬ B0 ≤ b; omega); have f33 := (HK5.out.mod n3 (by show ¬ B0 ≤ b; omega)).frozen 2; clear o3 n3 k3)
        all_goals (
          go_ret
          have hlenP : k2.length = j + 1 + (ks.length - j) := by rw [HP.out]; simp; omega
          have hr' : hvL n k2 = hvL n (ks.take j) ++ [.int .i64 id, .slice (some ⟨g, 0, none⟩) n cp] ++ hvL n (ks.drop j) := by
            rw [HP.out, hvL_append, hvL_cons, List.append_assoc]
          have h6 := O3.out
          rw [← hlenP, ← hr'] at h6
          have h7 := FIN.out _ _ _ h6 N3.out
          rw [hlenP] at h7
          exact ⟨rfl, g, cp, by rw [← HK2.out]; exact h7⟩)
      | none =>
        obtain ⟨h1, h2⟩ := HCAP.out rfl
        have hj0 : j = 0 := by rw [h1] at hj; simpa using hj
        subst hj0
        subst h2
        have HK0 := Lib.hid h1
        clear h1
        go_wp2_with (at_builtin; refine appS (base := B0) rfl (.tmp 97) (.tmp 103) THl THs 2 rfl Tryz.underlying98 infoHs rfl (by decide) _ _ _ _ 0 [] hB5 O2.out rfl rfl (Sl.nil _ _) (by simp) (by decide) (by omega) ?_; intro v3 w6 o3 n3; obtain ⟨a3, cap3, rfl, _, _, _⟩ := o3.els; have O3 := Lib.hid o3; have N3 := Lib.hid (N2.out.trans n3); have k33 := N3.out.cell (hbk.out.cell 2) (by show ¬ B0 ≤ b; omega); have f33 := (HK5.out.mod n3 (by show ¬ B0 ≤ b; omega)).frozen 2; clear o3 n3 k3)
        go_ret
        have hkk : k2 = [(id, (⟨g, cp, f⟩ : Rp))] := by rw [HP.out, HK0.out]; rfl
        have h6 := O3.out
        have h7 := FIN.out _ a3 cap3 (by rw [hkk]; simpa [hvL] using h6) N3.out
        rw [show k2.length = 1 by rw [hkk]; rfl] at h7
        exact ⟨rfl, g, cp, by rw [← HK2.out]; exact h7⟩
end Go.Proofs.YtjmfhcliggjdgaaGreatDoor

/- The reference of rarest: Pick; and Pick of both where nothing is picked; no condition but the table. -/
namespace Go.Proofs.YtjmfhcliggjdgaaGreatDoor
open Go Go.RowKit

set_option maxRecDepth 100000 in
set_option maxHeartbeats 4000000 in
theorem rarePickNo (peer seed : Int) (so : Option Nat) (b M g n : Nat) (most : Int) (c : Nat → Int) (ks : List (Int × Ow)) (w : World) (h : BD w b M g n most c ks) (hI : I64 peer) (hbad : lkL ks peer = none ∨ so = none ∨ ∃ s sg n' f, so = some s ∧ BSet w s sg n' f ∧ n' ≠ n) :
    Calls Tryz.prog 47 #[.pointer (some ⟨b, 0, none⟩), .int .i64 peer, .pointer (so.map fun s => ⟨s, 0, none⟩), .int .u64 seed] w fun e w' => e = .returned (.int .i64 (-1)) ∧ Mod (fun _ => False) w w' := by
  have c2 := h.head.cell 2; have c0 := h.head.cell 0
  have hlk := h.map.lookOk Tryz.underlying3 Tryz.underlying108 (zeroPtr w) hI
  rw [lk_mpO] at hlk
  have hz := zeroPtr
  cases hl : lkL ks peer with
  | none =>
    rw [hl] at hlk
    simp only [Option.map_none, Option.getD_none, Option.isSome_none] at hlk
    obtain ⟨pv, hpv⟩ : ∃ p, p = so.map fun s => (⟨s, 0, none⟩ : Addr) := ⟨_, rfl⟩
    rw [← hpv]
    clear h hI hl hbad hpv
    go_enter Tryz.func47, Tryz.ntmps47
    go_upto_region 2 with fail
    go_quiet (fail)
    go_wp2_with fail
    go_ret
    exact ⟨rfl, (Mod.refl _ w).drewN _⟩
  | some o =>
    rw [hl] at hlk
    simp only [Option.map_some, Option.getD_some, Option.isSome_some] at hlk
    rcases hbad with hbad | rfl | ⟨s, sg, n', f, rfl, hs, hne⟩
    · rw [hl] at hbad; cases hbad
    · show Calls Tryz.prog 47 #[.pointer (some ⟨b, 0, none⟩), .int .i64 peer, .pointer none, .int .u64 seed] w _
      clear h hI hl
      go_enter Tryz.func47, Tryz.ntmps47
      go_upto_region 2 with fail
      go_quiet (fail)
      go_wp2_with fail
      go_ret
      exact ⟨rfl, (Mod.refl _ w).drewN _⟩
    · show Calls Tryz.prog 47 #[.pointer (some ⟨b, 0, none⟩), .int .i64 peer, .pointer (some ⟨s, 0, none⟩), .int .u64 seed] w _
      have HS := Lib.hid hs
      have hnn : ((n' : Int) != (n : Int)) = true := by simp; omega
      clear h hI hl hs hne
      go_enter Tryz.func47, Tryz.ntmps47
      go_upto_region 2 with fail
      clear hlk
      refine wp_region2 [] [77] (by kernel_rfl) (by kernel_rfl) ?_
      repeat (first | (refine reg_anyT (by rfl) (fun K hK => ?_); go_simp; refine hK _ _ ?_; clear hK K) | (refine reg_read (by rfl) (fun K hK => ?_); go_simp; refine hK _ _ ?_; clear hK K))
      refine reg_read (by rfl) (fun K hK => ?_); go_simp
      refine ⟨_, fun rn => rd_same (bitsLen s sg n' f _ (HS.out.drewN rn)), hK _ _ ?_⟩; clear hK K
      repeat (first | (refine reg_anyT (by rfl) (fun K hK => ?_); go_simp; refine hK _ _ ?_; clear hK K) | (refine reg_read (by rfl) (fun K hK => ?_); go_simp; refine hK _ _ ?_; clear hK K))
      refine reg_nil (fun nd => ?_)
      go_wp2_with fail
      go_ret
      exact ⟨rfl, (Mod.refl _ w).drewN _⟩

set_option maxRecDepth 100000 in
set_option maxHeartbeats 4000000 in
theorem refRPickNo (peer seed : Int) (so : Option Nat) (b base n : Nat) (most : Int) (ks : List (Int × Rp)) (w : World) (h : RD w b base n most ks) (hr : Rising ks) (hlen : ks.length ≤ 1000) (hbad : lkL ks peer = none ∨ so = none ∨ ∃ s sg n' f, so = some s ∧ RSet w s sg n' f ∧ n' ≠ n) :
    Calls Tryz.prog 67 #[.pointer (some ⟨b, 0, none⟩), .int .i64 peer, .pointer (so.map fun s => ⟨s, 0, none⟩), .int .u64 seed] w fun e w' => e = .returned (.int .i64 (-1)) ∧ Mod (fun _ => False) w w' := by
  obtain ⟨a, cap, c0, _, c2, _, _, _, _, _⟩ := h.at
  cases hl : lkL ks peer with
  | none =>
    have HF := Lib.hid (refRFindNo peer b base n most ks w h hr hlen hl)
    obtain ⟨pv, hpv⟩ : ∃ p, p = so.map fun s => (⟨s, 0, none⟩ : Addr) := ⟨_, rfl⟩
    rw [← hpv]
    clear h hl hbad hpv hr
    go_enter Tryz.func67, Tryz.ntmps67
    go_wp2_with fail
    refine HF.out.mono ?_; rintro e w' ⟨rfl, rfl⟩
    go_upto_region 2 with fail
    go_quiet (fail)
    go_wp2_with fail
    go_ret
    exact ⟨rfl, (Mod.refl _ w).drewN _⟩
  | some o =>
    obtain ⟨i, hi⟩ := List.getElem?_of_mem (lk_some_mem hl)
    have HF := Lib.hid (refRFindAt peer i o b base n most ks w h hr hlen hi)
    have hi1 : decide ((i : Int) < 0) = false := by simp
    rcases hbad with hbad | rfl | ⟨s, sg, n', f, rfl, hs, hne⟩
    · rw [hl] at hbad; cases hbad
    · show Calls Tryz.prog 67 #[.pointer (some ⟨b, 0, none⟩), .int .i64 peer, .pointer none, .int .u64 seed] w _
      clear h hl hi hr
      go_enter Tryz.func67, Tryz.ntmps67
      go_wp2_with fail
      refine HF.out.mono ?_; rintro e w' ⟨rfl, rfl⟩
      go_upto_region 2 with fail
      go_quiet (fail)
      go_wp2_with fail
      go_ret
      exact ⟨rfl, (Mod.refl _ w).drewN _⟩
    · show Calls Tryz.prog 67 #[.pointer (some ⟨b, 0, none⟩), .int .i64 peer, .pointer (some ⟨s, 0, none⟩), .int .u64 seed] w _
      obtain ⟨cs, d0, _⟩ := rset_sl hs
      have hnn : ((n' : Int) != (n : Int)) = true := by simp; omega
      clear h hl hs hne hi hr
      go_enter Tryz.func67, Tryz.ntmps67
      go_wp2_with fail
      refine HF.out.mono ?_; rintro e w' ⟨rfl, rfl⟩
      go_upto_region 2 with fail
      go_quiet (fail)
      go_wp2_with fail
      go_ret
      exact ⟨rfl, (Mod.refl _ w).drewN _⟩

/-- The least so far. -/
def leastV (c : Nat → Int) : List Nat → Int
  | [] => 65
  | h :: _ => c h
set_option maxRecDepth 100000 in
set_option maxHeartbeats 4000000 in
theorem refRPick (peer seed : Int) (o : Rp) (s' sg' b base n : Nat) (most : Int) (ks : List (Int × Rp)) (f' : Nat → Bool) (w : World) (h : RD w b base n most ks) (hs : RSet w s' sg' n f') (hr : Rising ks) (hlen : ks.length ≤ 64) (hl : lkL ks peer = some o) (hn : n ≤ 1024) :
    Calls Tryz.prog 67 #[.pointer (some ⟨b, 0, none⟩), .int .i64 peer, .pointer (some ⟨s', 0, none⟩), .int .u64 seed] w fun e w' => e = .returned (.int .i64 (pickR (cF (absR ks)) (fLess o.f f') n seed)) ∧ Mod (fun _ => False) w w' := by
  obtain ⟨i0, hi⟩ := List.getElem?_of_mem (lk_some_mem hl)
  have HF := Lib.hid (refRFindAt peer i0 o b base n most ks w h hr (by omega) hi)
  have hi1 : decide ((i0 : Int) < 0) = false := by simp
  have hi0l2 : i0 < ks.length := (List.getElem?_eq_some_iff.1 hi).1
  have hi0l : (i0 : Int) < ks.length := by omega
  obtain ⟨cs, d0, _⟩ := rset_sl hs
  obtain ⟨a, cap, c0, _, c2, _, _, _, _, _⟩ := h.at
  have hnn : ((n : Int) != (n : Int)) = false := by simp
  obtain ⟨c, hc⟩ : ∃ c, c = cF (absR ks) := ⟨_, rfl⟩
  obtain ⟨F, hF⟩ : ∃ F, F = fLess o.f f' := ⟨_, rfl⟩
  rw [← hc, ← hF]
  have HCE := Lib.hid hc
  have HFE := Lib.hid hF
  obtain ⟨R, hR⟩ : ∃ R, R = pickR c F n seed := ⟨_, rfl⟩
  rw [← hR]
  have HR := Lib.hid hR
  have H := Lib.hid h
  have HS := Lib.hid hs
  have HI := Lib.hid hi
  have HN := Lib.hid hn
  have HCB : Hid (∀ j, 0 ≤ c j ∧ c j ≤ 64) := by intro j; rw [hc]; have := cF_bd (absR ks) j; unfold absR at this ⊢; rw [mapV_len] at this; omega
  clear h hs hr hl hn hi hc hF hR
  go_enter Tryz.func67, Tryz.ntmps67
  go_wp2_with fail
  refine HF.out.mono ?_; rintro e w' ⟨rfl, rfl⟩
  go_upto_region 2 with fail
  go_quiet (fail)
  have md := (Mod.refl (fun _ => False) w).drewN nq
  have H2 := Lib.hid (H.out.new md)
  have S2 := Lib.hid (HS.out.mod md (fun h => h) (fun h => h))
  have M2 := Lib.hid md
  clear md c0 c2 d0 HF H HS
  generalize w.drewN nq = w2 at *
  go_wp2_with fail
  go_loopw [10, 11, 12] (fun lv u v wr => ∃ k : Nat, v = .int .i64 k ∧ k ≤ n ∧ lv = .int .i64 (leastV c (pickL c F k)) ∧ Hid (wr.ownsRow w2.heap.size 3 1 u (pickL c F k).length (natL (pickL c F k))) ∧ Hid (Mod (fun _ => False) w2 wr)) (fun _ _ v _ => n - (intOf v).toNat)
  case atStart => exact ⟨0, rfl, Nat.zero_le _, rfl, World.ownsRow_nil _ _ _ _, Mod.refl _ _⟩
  case round =>
    obtain ⟨i, rfl, hi, rfl, hown, hm⟩ := hrel
    have HX := Lib.hid (H2.out.new hm.out)
    obtain ⟨a, cap, c0, _, c2, he, _, _, _, _⟩ := HX.out.at
    by_cases hlt : (i : Int) < n
    · have hin : i < n := by omega
      obtain ⟨X, rfl, _, p1⟩ := hvEl he.out (Nat.le_refl _) HI.out
      dsimp only at p1
      have b0 := (boo_at (HX.out.sets _ (List.mem_of_getElem? HI.out)) hin).1
      dsimp only at b0
      have SX := Lib.hid (S2.out.mod hm.out (fun h => h) (fun h => h))
      obtain ⟨cs2, d0, _⟩ := rset_sl SX.out
      have d1 := (SX.out.at hin).1
      have hFi : F i = (o.f i && !f' i) := by rw [HFE.out]; rfl
      have HOWN := hown
      have hk1 : n - (i + 1) < n - i := by omega
      have hn1024 := HN.out
      have hpl := pickL_lt c F i
      have hlen' := pickL_len c F i
      cases hfi : F i with
      | false =>
        have HPK := Lib.hid (show pickL c F (i + 1) = pickL c F i by show (if F i = true then _ else _) = _; rw [hfi]; rfl)
        rw [hFi] at hfi
        have hlv : leastV c (pickL c F (i + 1)) = leastV c (pickL c F i) := by rw [HPK.out]
        have HLV := Lib.hid hlv
        clear hpl hlen' hFi hlv
        obtain ⟨u1, hu1⟩ : ∃ u, u = o.f i := ⟨_, rfl⟩
        obtain ⟨u2, hu2⟩ : ∃ u, u = f' i := ⟨_, rfl⟩
        rw [← hu1] at hfi b0
        rw [← hu2] at hfi d1
        clear hu1 hu2
        cases u1 with
        | false =>
          clear hfi
          go_wp2_with fail
          exact ⟨⟨i + 1, by go_num, by omega, by rw [HLV.out], by rw [HPK.out]; exact HOWN, hm⟩, by simp [intOf]; omega⟩
        | true =>
          have hu : u2 = true := by simpa using hfi
          subst hu
          clear hfi
          go_wp2_with fail
          exact ⟨⟨i + 1, by go_num, by omega, by rw [HLV.out], by rw [HPK.out]; exact HOWN, hm⟩, by simp [intOf]; omega⟩
      | true =>
        have hp1 : pickL c F (i + 1) = pickS c (pickL c F i) i := by show (if F i = true then _ else _) = _; rw [hfi]; rfl
        rw [hFi] at hfi
        have h1 : o.f i = true := by revert hfi; cases o.f i <;> simp
        have h2 : f' i = false := by revert hfi; rw [h1]; cases f' i <;> simp
        rw [h1] at b0
        rw [h2] at d1
        have HHW := Lib.hid (show Calls Tryz.prog 92 #[.pointer (some ⟨b, 0, none⟩), .int .i64 (i : Int)] wr (fun e w' => e = .returned (.int .i64 (cntR (cF (absR ks)) n (i : Int))) ∧ Mod (fun _ => False) wr w') from (refRHow (i : Int) b base n most ks wr HX.out (by omega)).mono (fun e w' ⟨h1, h2⟩ => ⟨h1, h2 ▸ Mod.refl _ _⟩))
        rw [← HCE.out, show cntR c n (i : Int) = c i by unfold cntR; rw [if_pos (by omega)]; rfl] at HHW
        have hcb := HCB.out i
        obtain ⟨ci, hci⟩ : ∃ x, x = c i := ⟨_, rfl⟩
        rw [← hci] at HHW hcb
        clear hfi hFi h1 h2 he
        cases hpi : pickL c F i with
        | nil =>
          rw [hpi] at hp1 HOWN
          have HPK := Lib.hid (show pickL c F (i + 1) = [i] from hp1)
          have HLV : Hid (leastV c (pickL c F (i + 1)) = ci) := by show _ = _; rw [HPK.out, hci]; rfl
          rw [show leastV c [] = 65 from rfl]
          clear hp1 hpl hlen' hpi hci hown HOWN
          go_wp2_with fail
          refine HHW.out.mono ?_; rintro e wb ⟨rfl, mb⟩
          have MB := Lib.hid (hm.out.trans mb)
          have OWB : Hid (wb.ownsRow w2.heap.size 3 1 (.slice none 0 0) 0 (natL [])) := World.ownsRow_nil _ _ _ _
          have hlt65 : ci < 65 := by omega
          clear mb HHW
          go_wp2_with (at_builtin; refine app1 (base := w2.heap.size) rfl (.tmp 75) (.tmp 77) 25 3 1 rfl Tryz.underlying25 infoInt rfl (by decide) _ _ _ _ 1 [.int .i64 (i : Int)] (by have := MB.out.size; simp; omega) (OWB.out.alloc _) rfl rfl (sl_new wb #[.int .i64 (i : Int)] 3) (by simp [Value.oneCell']) (by decide) (by omega) ?_; intro v' w' g1 g2 g3; have G1 := Lib.hid g1; have G2 := Lib.hid (((Mod.refl _ wb).alloc (.cells #[.int .i64 (i : Int)] 3)).trans g2); clear g1 g2 g3)
          have MX := Lib.hid (MB.out.new G2.out (own_ge OWB.out))
          exact ⟨⟨i + 1, by go_num, by omega, by rw [HLV.out], by rw [HPK.out]; exact G1.out, MX⟩, by simp [intOf]; omega⟩
        | cons hd t =>
          rw [hpi] at hp1 HOWN
          obtain ⟨ch, hch⟩ : ∃ x, x = c hd := ⟨_, rfl⟩
          rw [show leastV c (hd :: t) = ch from hch.symm]
          have hps : pickL c F (i + 1) = if ci < ch then [i] else if ci = ch then (hd :: t) ++ [i] else hd :: t := by rw [hp1, hci, hch]; rfl
          obtain ⟨m, hme⟩ : ∃ m, m = (hd :: t).length := ⟨_, rfl⟩
          rw [← hme] at HOWN
          have hml : m ≤ 1024 := by rw [hpi, ← hme] at hlen'; omega
          have HME := Lib.hid hme
          have HCI := Lib.hid hci
          have HCH := Lib.hid hch
          clear hp1 hpl hlen' hpi hci hch hown hme
          rcases Int.lt_trichotomy ci ch with gg | gg | gg
          · have HPK := Lib.hid (show pickL c F (i + 1) = [i] by rw [hps, if_pos gg])
            have HLV : Hid (leastV c (pickL c F (i + 1)) = ci) := by show _ = _; rw [HPK.out, HCI.out]; rfl
            clear hps HOWN
            go_wp2_with fail
            refine HHW.out.mono ?_; rintro e wb ⟨rfl, mb⟩
            have MB := Lib.hid (hm.out.trans mb)
            have OWB : Hid (wb.ownsRow w2.heap.size 3 1 (.slice none 0 0) 0 (natL [])) := World.ownsRow_nil _ _ _ _
            clear mb HHW
            go_wp2_with (at_builtin; refine app1 (base := w2.heap.size) rfl (.tmp 75) (.tmp 77) 25 3 1 rfl Tryz.underlying25 infoInt rfl (by decide) _ _ _ _ 1 [.int .i64 (i : Int)] (by have := MB.out.size; simp; omega) (OWB.out.alloc _) rfl rfl (sl_new wb #[.int .i64 (i : Int)] 3) (by simp [Value.oneCell']) (by decide) (by omega) ?_; intro v' w' g1 g2 g3; have G1 := Lib.hid g1; have G2 := Lib.hid (((Mod.refl _ wb).alloc (.cells #[.int .i64 (i : Int)] 3)).trans g2); clear g1 g2 g3)
            have MX := Lib.hid (MB.out.new G2.out (own_ge OWB.out))
            exact ⟨⟨i + 1, by go_num, by omega, by rw [HLV.out], by rw [HPK.out]; exact G1.out, MX⟩, by simp [intOf]; omega⟩
          · have HPK := Lib.hid (show pickL c F (i + 1) = (hd :: t) ++ [i] by rw [hps, if_neg (by omega), if_pos gg])
            have HLV : Hid (leastV c (pickL c F (i + 1)) = ch) := by show _ = _; rw [HPK.out, HCH.out]; rfl
            have g1 : decide (ci < ch) = false := by simp; omega
            have g2 : (ci == ch) = true := by simpa using gg
            clear hps gg
            go_wp2_with fail
            refine HHW.out.mono ?_; rintro e wb ⟨rfl, mb⟩
            have MB := Lib.hid (hm.out.trans mb)
            have OWB := Lib.hid (owns_new HOWN.out mb)
            clear mb HHW
            go_wp2_with (at_builtin; refine app1 (base := w2.heap.size) rfl (.tmp 75) (.tmp 77) 25 3 1 rfl Tryz.underlying25 infoInt rfl (by decide) _ _ _ _ 1 [.int .i64 (i : Int)] (by have := MB.out.size; simp; omega) (OWB.out.alloc _) rfl rfl (sl_new wb #[.int .i64 (i : Int)] 3) (by simp [Value.oneCell']) (by decide) (by omega) ?_; intro v' w' g1 g2 g3; have G1 := Lib.hid g1; have G2 := Lib.hid (((Mod.refl _ wb).alloc (.cells #[.int .i64 (i : Int)] 3)).trans g2); clear g1 g2 g3)
            have MX := Lib.hid (MB.out.new G2.out (own_ge OWB.out))
            refine ⟨⟨i + 1, by go_num, by omega, by rw [HLV.out], ?_, MX⟩, by simp [intOf]; omega⟩
            show World.ownsRow _ _ _ _ _ _ _
            rw [HPK.out, show natL ((hd :: t) ++ [i]) = natL (hd :: t) ++ [.int .i64 (i : Int)] by simp [natL], List.length_append, ← HME.out]
            exact G1.out
          · have HPK := Lib.hid (show pickL c F (i + 1) = hd :: t by rw [hps, if_neg (by omega), if_neg (by omega)])
            have HLV : Hid (leastV c (pickL c F (i + 1)) = ch) := by show _ = _; rw [HPK.out, HCH.out]; rfl
            have g1 : decide (ci < ch) = false := by simp; omega
            have g2 : (ci == ch) = false := by simp; omega
            clear hps gg
            go_wp2_with fail
            refine HHW.out.mono ?_; rintro e wb ⟨rfl, mb⟩
            have MB := Lib.hid (hm.out.trans mb)
            have OWB := Lib.hid (owns_new HOWN.out mb)
            clear mb HHW
            go_wp2_with fail
            refine ⟨⟨i + 1, by go_num, by omega, by rw [HLV.out], ?_, MB⟩, by simp [intOf]; omega⟩
            show World.ownsRow _ _ _ _ _ _ _
            rw [HPK.out, ← HME.out]
            exact OWB.out
    · have hkn : i = n := by omega
      have h1 := hown.out
      rw [hkn] at h1
      have M3 := Lib.hid (M2.out.trans hm.out)
      obtain ⟨zs, hzs⟩ : ∃ zs, zs = pickL c F n := ⟨_, rfl⟩
      have hrr := HR.out
      unfold pickR at hrr
      rw [← hzs] at hrr h1
      obtain ⟨m, hm'⟩ : ∃ m, m = zs.length := ⟨_, rfl⟩
      have hml : m ≤ 1024 := by have := pickL_len c F n; have := HN.out; rw [hm', hzs]; omega
      rw [← hm'] at hrr h1
      obtain ⟨a7, cap7, rfl, hcap, he7, hxb⟩ := h1.els
      have HE := Lib.hid he7
      have HML := Lib.hid hm'
      obtain ⟨lv, hlv⟩ : ∃ x, x = leastV c (pickL c F i) := ⟨_, rfl⟩
      rw [← hlv]
      clear hown h1 he7 hzs hm' hlv hkn hi c2 he
      obtain ⟨w1', hw1'⟩ : ∃ w1', w1' = wr := ⟨_, rfl⟩
      rw [← hw1'] at hxb M3 HE c0 ⊢
      clear hw1'
      by_cases h0 : m = 0
      · subst h0
        rw [if_pos rfl] at hrr
        subst hrr
        go_wp2_with fail
        go_ret
        exact ⟨rfl, M3.out⟩
      · rw [if_neg h0] at hrr
        obtain ⟨j, hj, hjn⟩ := blw_at seed (n := m) (by omega)
        obtain ⟨x, hx⟩ : ∃ x, zs[j]? = some x := ⟨_, List.getElem?_eq_getElem (by have := HML.out; omega)⟩
        rw [hj, Int.toNat_natCast, List.getD_eq_getElem?_getD, hx] at hrr
        subst hrr
        have hn0 : ((m : Int) == 0) = false := by simpa using h0
        have hwn : IntKind.u64.wrap (m : Int) = (m : Int) := by unfold IntKind.wrap; simp [IntKind.bits, IntKind.signed]; omega
        have hU : U64 (m : Int) := ⟨by omega, by omega⟩
        obtain ⟨X, rfl, e0, _⟩ := HE.out j hjn
        have d0 := e0 (.int .i64 x) (by simp [hx])
        rw [Nat.mul_one] at d0
        have hkn2 : (j : Int) < m := by omega
        have ma := (Mod.refl (fun _ => False) w1').alloc (.cells #[.int .u64 seed] 141)
        have d1 := ma.cell d0 (fun h => h)
        have XA := Blk.new w1' #[.int .u64 seed] 141
        have HB := Lib.hid (refBelow seed (m : Int) w1'.heap.size _ (XA.cell 0) (XA.frozen 0) hU)
        rw [hj] at HB
        have MA := Lib.hid (M3.out.trans ma)
        have hxl := (hxb X rfl).2
        have m2 := (Mod.refl (· = w1'.heap.size) (w1'.alloc (.cells #[.int .u64 seed] 141))).setCell (p := ⟨w1'.heap.size, 0, none⟩) (.inl rfl) (.int .u64 (stp seed))
        have d2 := m2.cell d1 (by show ¬ (X.add j).block = w1'.heap.size; rw [Addr.add_block]; omega)
        have M4 := Lib.hid (MA.out.setCell (p := ⟨w1'.heap.size, 0, none⟩) (.inr (by have := M3.out.size; exact this)) (.int .u64 (stp seed)))
        clear e0 hx hj h0 HE XA ma d0 d1 m2 hxl hxb M3 hU
        go_wp2_with fail
        refine HB.out.mono ?_; rintro e w5 ⟨rfl, hw5⟩
        rw [hw5] at d2 M4
        clear hw5 HB MA
        go_wp2_with fail
        go_ret
        exact ⟨rfl, M4.out⟩
end Go.Proofs.YtjmfhcliggjdgaaGreatDoor

/- The library's table as the row lays it; no condition. -/
namespace Go.Proofs.YtjmfhcliggjdgaaGreatDoor
open Go Go.RowKit Go.ChangeShapes Go.WideShapes Go.ChangeAt Go.Deep

/-- The table's name, as the row has it. -/
abbrev tabT : String := (Rows.connAsksRow.laid.map (·.1)).headD ""
abbrev laidT : List (String × DataW Unit) := [(tabT, Rows.laid_math_bits_deBruijn64tab)]
theorem gTabIs : Tryz.prog.globalNamed tabT = some 0 := by kernel_rfl
theorem tTabIs : (Tryz.prog.globals[0]?).map (·.type) = some 149 := by kernel_rfl
theorem door_met (os : Os) (args : Array Value) : laidMetH Tryz.prog laidT ((World.doorLaid Tryz.prog 400 os).forCall (fun _ _ => 0) ⟨#[], args, []⟩).memory :=
  laidMetH_of_parts3 (fuel := 8) (laidMet_of_run' 8 (by kernel_rfl) (by kernel_rfl)) (by kernel_rfl) (by kernel_rfl)
def litI : DataW Unit → Int
  | .lit (.int _ n) => n
  | _ => 0
def litsOf : DataW Unit → List Int
  | .agg l => l.map litI
  | _ => []
theorem litsTab : litsOf (Rows.laid_math_bits_deBruijn64tab : DataW Unit) = Lib.deBruijn64tab.map (fun (n : Nat) => (n : Int)) := by kernel_rfl
theorem of_laid {W : World} (h : laidMetH Tryz.prog laidT W) : TabW W := by
  rw [MakeChecks.laidMetH_plain _ _ _ (by kernel_rfl)] at h
  obtain ⟨ps, ⟨g0, t0, cs0, f0, p0, q0, hg0, ht0, hv0, hd0, _, _⟩, _, _⟩ := h
  obtain rfl := Option.some.inj (gTabIs.symm.trans hg0)
  obtain rfl := Option.some.inj (tTabIs.symm.trans ht0)
  obtain ⟨xs, m1, rfl, hx1, hlen, hn, hel⟩ := DataW.trod_array Tryz.underlying149 hd0
  simp only [Prod.mk.injEq] at hx1
  have hx := hx1.1
  have c1 : Tryz.prog.cellsOf 5 = 1 := by kernel_rfl
  intro j hj
  have hj64 : j < 64 := hj
  have h0 := hel j hj64
  rw [c1, Nat.mul_one] at h0
  obtain ⟨y, hy⟩ : ∃ y, xs[j]? = some y := ⟨_, List.getElem?_eq_getElem (by omega)⟩
  rw [hy] at h0
  obtain ⟨k, e1, e2, _⟩ := DataW.trod_int Tryz.underlying5 h0
  have hk : k = (Lib.deBruijn64tab.getD j 0 : Nat) := by
    have h1 : (Rows.laid_math_bits_deBruijn64tab : DataW Unit) = .agg (xs.map (·.1)) := hx
    have h2 := litsTab
    rw [h1] at h2
    have h3 := congrArg (·[j]?) h2
    simp only [litsOf, List.getElem?_map, hy, Option.map_some] at h3
    have hjl : j < Lib.deBruijn64tab.length := hj
    rw [List.getElem?_eq_getElem hjl, Option.map_some, Option.some.injEq] at h3
    rw [List.getD_eq_getElem?_getD, List.getElem?_eq_getElem hjl, Option.getD_some, ← h3, e2]
    rfl
  subst hk
  have h4 := World.var?_cell hg0 hv0 j
  have h5 : cs0.toList[j]? = some (.int .u8 (Lib.deBruijn64tab.getD j 0 : Nat)) := by
    have h6 := congrArg (·[0]?) e1
    simpa [List.getElem?_take, List.getElem?_drop] using h6
  show W.cell? ⟨0, j, none⟩ = _
  rw [h4]
  simpa using h5
end Go.Proofs.YtjmfhcliggjdgaaGreatDoor

/- The walk of the statement RarestOwn: the call returns true and turns nothing that was there; no condition but the table. -/
namespace Go.Proofs.YtjmfhcliggjdgaaGreatDoor
open Go Go.RowKit

theorem IsRow.bytes {w : World} {a : Option Addr} {len cap : Nat} {zs : List Int} (h : IsRow .u8 w a len cap zs) : ∃ bs : List Nat, bs.length = len ∧ (∀ x ∈ bs, x < 256) ∧ Sl w (.slice a len cap) 1 len (byts bs) := by
  have hs := h.sl
  have hwf : ∀ n ∈ zs.take len, 0 ≤ n ∧ n < 256 := by
    intro n hn
    have hm : n ∈ zs := List.mem_of_mem_take hn
    rcases h with ⟨_, _, _, rfl⟩ | ⟨_, _, _, _, _, _, h⟩
    · cases hm
    · have := h n hm
      simp [Lit.wf, IntKind.min, IntKind.max, IntKind.signed, IntKind.bits] at this
      omega
  have hl := hs.len
  generalize zs.take len = xs at hs hwf hl
  refine ⟨xs.map Int.toNat, by simpa using hl, ?_, ?_⟩
  · intro x hx
    obtain ⟨n, hn, rfl⟩ := List.mem_map.1 hx
    have := hwf n hn
    omega
  · have : byts (xs.map Int.toNat) = xs.map (Value.int .u8) := by
      unfold byts
      rw [List.map_map]
      apply List.map_congr_left
      intro n hn
      have := hwf n hn
      show Value.int .u8 ((n.toNat : Nat) : Int) = _
      rw [Int.toNat_of_nonneg this.1]
    rw [this]; exact hs

theorem strB {w : World} {v : Value} {m : Nat} {bs : List Nat} (h : Sl w v 1 m (byts bs)) : (convert 24 9 v).run Tryz.prog w = .ok (.string (strOf bs)) w :=
  str_conv w 24 9 5 Tryz.underlying24 Tryz.underlying5 Tryz.underlying9 v m bs h
theorem Mod.bel {w w' : World} (h : Mod (fun _ => False) w w') : Below w.heap.size w w' := h.below (Nat.le_refl _) (fun _ h => h.elim)

end Go.Proofs.YtjmfhcliggjdgaaGreatDoor

/- The walk of the statement RarestTurned: the call returns true and turns nothing that was there; no condition but the table. -/
namespace Go.Proofs.YtjmfhcliggjdgaaGreatDoor
open Go Go.RowKit Go.ChangeShapes Go.WideShapes Go.ChangeAt Go.Deep

/-- A slice of bytes, as it lies. -/
structure By where
  a : Option Addr
  len : Nat
  cap : Nat
  bs : List Nat
instance : Inhabited By := ⟨⟨none, 0, 0, []⟩⟩
def IsBss (w : World) (a : Option Addr) (len : Nat) (l : List By) : Prop :=
  l.length = len ∧ (len : Int) ≤ 9223372036854775807 ∧ ∀ i t, l[i]? = some t → (∃ x, a = some x ∧ w.cell? (x.add i) = some (.slice t.a t.len t.cap)) ∧ Sl w (.slice t.a t.len t.cap) 1 t.len (byts t.bs) ∧ ∀ x ∈ t.bs, x < 256
theorem IsBss.new {w w' : World} {a : Option Addr} {len : Nat} {l : List By} (h : IsBss w a len l) (hm : Mod (fun _ => False) w w') : IsBss w' a len l :=
  ⟨h.1, h.2.1, fun i t hi => by
    obtain ⟨⟨x, rfl, h1⟩, h2, h3⟩ := h.2.2 i t hi
    exact ⟨⟨x, rfl, hm.cell h1 (fun h => h)⟩, h2.mod hm (fun _ _ _ _ h => h), h3⟩⟩

/-- Sums. -/
def sm (g : Nat → Int) : Nat → Int
  | 0 => 0
  | k + 1 => sm g k + g k
theorem sm_front (h : Nat → Int) : ∀ m, sm h (m + 1) = h 0 + sm (fun i => h (i + 1)) m
  | 0 => by simp [sm]
  | m + 1 => by
    show sm h (m + 1) + h (m + 1) = h 0 + (sm (fun i => h (i + 1)) m + h (m + 1))
    rw [sm_front h m]
    omega
theorem sm_ext {g h : Nat → Int} : ∀ {m}, (∀ i, i < m → g i = h i) → sm g m = sm h m
  | 0, _ => rfl
  | m + 1, e => by
    show sm g m + g m = sm h m + h m
    rw [sm_ext (fun i hi => e i (by omega)), e m (by omega)]
theorem sm_rev (g : Nat → Int) : ∀ m, sm (fun i => g (m - 1 - i)) m = sm g m
  | 0 => rfl
  | m + 1 => by
    rw [sm_front]
    show g (m + 1 - 1 - 0) + sm (fun i => g (m + 1 - 1 - (i + 1))) m = sm g m + g m
    rw [sm_ext (h := fun i => g (m - 1 - i)) (fun i _ => by congr 1; omega), sm_rev g m, show m + 1 - 1 - 0 = m by omega]
    omega
theorem sm_bd {g : Nat → Int} (h : ∀ i, 0 ≤ g i ∧ g i ≤ 1) : ∀ m, 0 ≤ sm g m ∧ sm g m ≤ m
  | 0 => by simp [sm]
  | m + 1 => by
    have := sm_bd h m
    have := h m
    unfold sm
    omega
def gI (fB : Nat → Nat → Bool) (j i : Nat) : Int := if fB i j = true then 1 else 0
theorem gI_bd (fB : Nat → Nat → Bool) (j i : Nat) : 0 ≤ gI fB j i ∧ gI fB j i ≤ 1 := by unfold gI; split <;> omega
theorem F13_out (n : Nat) (bs : List Nat) {j : Nat} (h : n ≤ j) : F13 n bs j = false := by unfold F13; simp; omega
theorem cnK_add {c : Nat → Int} {f : Nat → Bool} {n : Nat} (hf : ∀ j, n ≤ j → f j = false) (j : Nat) : cnK c f 1 n j = c j + if f j = true then 1 else 0 := by
  unfold cnK
  by_cases h : f j = true
  · have : j < n := by
      rcases Nat.lt_or_ge j n with h2 | h2
      · exact h2
      · rw [hf j h2] at h; cases h
    rw [if_pos ⟨this, h⟩, if_pos h]
  · rw [if_neg (fun e => h e.2), if_neg h]; omega
def csA (fB : Nat → Nat → Bool) (k j : Nat) : Int := sm (gI fB j) k
def csB (fB : Nat → Nat → Bool) (m k j : Nat) : Int := sm (fun i => gI fB j (m - 1 - i)) k
theorem csA_step {fB : Nat → Nat → Bool} {n k : Nat} (hf : ∀ i j, n ≤ j → fB i j = false) : cnK (csA fB k) (fB k) 1 n = csA fB (k + 1) := by
  funext j
  rw [cnK_add (hf k)]
  rfl
theorem csB_step {fB : Nat → Nat → Bool} {n m k : Nat} (hf : ∀ i j, n ≤ j → fB i j = false) : cnK (csB fB m k) (fB (m - 1 - k)) 1 n = csB fB m (k + 1) := by
  funext j
  rw [cnK_add (hf _)]
  rfl
theorem cs_eq (fB : Nat → Nat → Bool) (m : Nat) : csB fB m m = csA fB m := by
  funext j
  exact sm_rev (gI fB j) m
theorem len_putO {α : Type} (ks : List (Int × α)) (id : Int) (v : α) : (putL ks id v).length ≤ ks.length + 1 := by
  unfold putL
  rw [length_insS]
  have : (delL ks id).length ≤ ks.length := List.length_filter_le _ _
  omega
/-- Which peers a board knows. -/
structure Knows (fB : Nat → Nat → Bool) (lo hi : Nat) (ks : List (Int × Ow)) : Prop where
  yes : ∀ i, lo ≤ i → i < hi → ∃ o, lkL ks ((i : Int) + 1) = some o ∧ o.f = fB i
  no : ∀ i : Nat, i < lo ∨ hi ≤ i → lkL ks ((i : Int) + 1) = none
  len : ks.length ≤ hi - lo
theorem Knows.up {fB : Nat → Nat → Bool} {lo hi : Nat} {ks : List (Int × Ow)} (h : Knows fB lo hi ks) (hl : lo ≤ hi) (x y : Nat) : Knows fB lo (hi + 1) (putL ks ((hi : Int) + 1) ⟨x, y, fB hi⟩) := by
  refine ⟨fun i h1 h2 => ?_, fun i hi' => ?_, by have := len_putO ks ((hi : Int) + 1) (⟨x, y, fB hi⟩ : Ow); have := h.len; omega⟩
  · rw [lk_put]
    by_cases e : i = hi
    · subst e; exact ⟨_, if_pos rfl, rfl⟩
    · rw [if_neg (by omega)]; exact h.yes i h1 (by omega)
  · rw [lk_put, if_neg (by omega)]; exact h.no i (by omega)
theorem Knows.down {fB : Nat → Nat → Bool} {lo hi : Nat} {ks : List (Int × Ow)} (h : Knows fB (lo + 1) hi ks) (hl : lo + 1 ≤ hi) (x y : Nat) : Knows fB lo hi (putL ks ((lo : Int) + 1) ⟨x, y, fB lo⟩) := by
  refine ⟨fun i h1 h2 => ?_, fun i hi' => ?_, by have := len_putO ks ((lo : Int) + 1) (⟨x, y, fB lo⟩ : Ow); have := h.len; omega⟩
  · rw [lk_put]
    by_cases e : i = lo
    · subst e; exact ⟨_, if_pos rfl, rfl⟩
    · rw [if_neg (by omega)]; exact h.yes i (by omega) h2
  · rw [lk_put, if_neg (by omega)]; exact h.no i (by omega)
/-- Two boards side by side. -/
structure Side (w : World) (b M g b' M' g' n : Nat) (most : Int) (c c' : Nat → Int) (ks ks' : List (Int × Ow)) : Prop where
  l : BD w b M g n most c ks
  r : BD w b' M' g' n most c' ks'
  lr : ApartO b M g ks M' g'
  rl : ApartO b' M' g' ks' M g
theorem Side.new {w w' : World} {b M g b' M' g' n : Nat} {most : Int} {c c' : Nat → Int} {ks ks' : List (Int × Ow)} (h : Side w b M g b' M' g' n most c c' ks ks') (hm : Mod (fun _ => False) w w') : Side w' b M g b' M' g' n most c c' ks ks' := ⟨h.l.new hm, h.r.new hm, h.lr, h.rl⟩
theorem Side.left {w w2 : World} {b M g b' M' g' n : Nat} {most : Int} {c c' c2 : Nat → Int} {ks ks' : List (Int × Ow)} (h : Side w b M g b' M' g' n most c c' ks ks') {peer : Int} {x y : Nat} {f : Nat → Bool} (h2 : BD w2 b M g n most c2 (putL ks peer ⟨x, y, f⟩)) (hm : Mod (fun i => i = M ∨ i = g) w w2) (hx : w.heap.size ≤ x) (hy : w.heap.size ≤ y) : Side w2 b M g b' M' g' n most c2 c' (putL ks peer ⟨x, y, f⟩) ks' :=
  ⟨h2, h.r.mod hm (fun i hi e => by have := h.rl i hi; omega), h.lr.put (by have := h.r.lt (.inr (.inl rfl)); have := h.r.lt (.inr (.inr (.inl rfl))); omega), h.rl⟩
theorem Side.right {w w2 : World} {b M g b' M' g' n : Nat} {most : Int} {c c' c2 : Nat → Int} {ks ks' : List (Int × Ow)} (h : Side w b M g b' M' g' n most c c' ks ks') {peer : Int} {x y : Nat} {f : Nat → Bool} (h2 : BD w2 b' M' g' n most c2 (putL ks' peer ⟨x, y, f⟩)) (hm : Mod (fun i => i = M' ∨ i = g') w w2) (hx : w.heap.size ≤ x) (hy : w.heap.size ≤ y) : Side w2 b M g b' M' g' n most c c2 ks (putL ks' peer ⟨x, y, f⟩) :=
  ⟨h.l.mod hm (fun i hi e => by have := h.lr i hi; omega), h2, h.lr, h.rl.put (by have := h.l.lt (.inr (.inl rfl)); have := h.l.lt (.inr (.inr (.inl rfl))); omega)⟩
end Go.Proofs.YtjmfhcliggjdgaaGreatDoor

/- The laws on rarest: both boards, what a step does to what is known, and the code's operations whole; no condition but the table. -/
namespace Go.Proofs.YtjmfhcliggjdgaaGreatDoor
open Go Go.RowKit

abbrev LB := List (Int × (Nat → Bool))
/-- The document's steps over what is known. -/
def setA (n : Nat) (most : Int) (L : LB) (peer : Int) (x : Option (Nat × (Nat → Bool))) : Int × LB :=
  match x with
  | none => (1, L)
  | some (m, f) => if (1 ≤ peer ∧ peer ≤ 65536) ∧ m = n then (if (lkL L peer).isSome = true ∨ (L.length : Int) < most then (0, putL L peer f) else (3, L)) else (1, L)
def addA (n : Nat) (L : LB) (peer k : Int) : Int × LB :=
  match lkL L peer with
  | none => (4, L)
  | some f => if 0 ≤ k ∧ k < n then (0, putL L peer (fil f k.toNat (k.toNat + 1) true)) else (1, L)
def goneA (L : LB) (peer : Int) : Int × LB := if (lkL L peer).isSome = true then (0, delL L peer) else (4, L)
def pickA (n : Nat) (L : LB) (peer : Int) (x : Option (Nat × (Nat → Bool))) (seed : Int) : Int :=
  match x with
  | none => -1
  | some (m, f) => if m = n then (match lkL L peer with | none => -1 | some o => pickR (cF L) (fLess o f) n seed) else -1
structure OkB (most : Int) (L : LB) : Prop where
  rise : Rising L
  len : (L.length : Int) ≤ most
  i64 : ∀ q ∈ L, I64 q.1
theorem len_put_known {α : Type} {L : List (Int × α)} (hr : Rising L) {p : Int} (h : (lkL L p).isSome = true) (v : α) : (putL L p v).length = L.length := by
  obtain ⟨o, ho⟩ := Option.isSome_iff_exists.1 h
  obtain ⟨i, hi⟩ := List.mem_iff_getElem?.1 (lk_some_mem ho)
  rw [put_at hr hi, List.length_set]
theorem OkB.set {n : Nat} {most : Int} {L : LB} (h : OkB most L) (peer : Int) (x : Option (Nat × (Nat → Bool))) : OkB most (setA n most L peer x).2 := by
  unfold setA
  cases x with
  | none => exact h
  | some q =>
    obtain ⟨m, f⟩ := q
    dsimp only
    split
    · split
      · rename_i hc
        rename_i hp
        refine ⟨rising_put h.rise _ _, ?_, fun q hq => (mem_putO hq).elim (fun e => by rw [e]; exact i64_of (by dsimp only; omega) (by dsimp only; omega)) (h.i64 q)⟩
        by_cases hk : (lkL L peer).isSome = true
        · rw [len_put_known h.rise hk]; exact h.len
        · have := len_putO L peer f
          have := hc.resolve_left hk
          dsimp only
          omega
      · exact h
    · exact h
theorem OkB.add {n : Nat} {most : Int} {L : LB} (h : OkB most L) (peer k : Int) : OkB most (addA n L peer k).2 := by
  unfold addA
  cases hl : lkL L peer with
  | none => exact h
  | some f =>
    dsimp only
    split
    · refine ⟨rising_put h.rise _ _, ?_, fun q hq => (mem_putO hq).elim (fun e => by rw [e]; exact (show I64 peer from h.i64 (peer, f) (lk_some_mem hl))) (h.i64 q)⟩
      dsimp only
      rw [len_put_known h.rise (by rw [hl]; rfl)]
      exact h.len
    · exact h
theorem OkB.gone {most : Int} {L : LB} (h : OkB most L) (peer : Int) : OkB most (goneA L peer).2 := by
  unfold goneA
  split
  · refine ⟨rising_del h.rise _, ?_, fun q hq => h.i64 q (List.mem_filter.1 hq).1⟩
    have : (delL L peer).length ≤ L.length := List.length_filter_le _ _
    have := h.len
    dsimp only
    omega
  · exact h

theorem BD.ext {w : World} {b M g n : Nat} {most : Int} {c c' : Nat → Int} {ks : List (Int × Ow)} (h : BD w b M g n most c ks) (e : ∀ k, k < n → c' k = c k) : BD w b M g n most c' ks :=
  ⟨h.head, h.map, h.cn.ext e, h.sets, h.ne, h.off, h.two, h.tab⟩
theorem BD.rising {w : World} {b M g n : Nat} {most : Int} {c : Nat → Int} {ks : List (Int × Ow)} (h : BD w b M g n most c ks) : Rising ks := by
  have := h.map.rising
  unfold mpO at this
  exact (rising_mapV (fun o : Ow => Value.pointer (some ⟨o.s, 0, none⟩))).1 this
theorem cO_cF (ks : List (Int × Ow)) (j : Nat) : cO ks j = cF (mapV Ow.f ks) j := by rw [cF_mapV]; rfl

/-- Both boards, that know the same. -/
structure TwoB (w : World) (B0 b M g : Nat) (ks : List (Int × Ow)) (b' base : Nat) (ks' : List (Int × Rp)) (n : Nat) (most : Int) (L : LB) : Prop where
  bd : BD w b M g n most (cO ks) ks
  rd : RD w b' base n most ks'
  e1 : mapV Ow.f ks = L
  e2 : mapV Rp.f ks' = L
  ap : ∀ i, BDb b M g ks i → ¬ RDb w b' ks' i
  low : ∀ i, BDb b M g ks i ∨ RDb w b' ks' i → B0 ≤ i
  ok : OkB most L
  sm : most ≤ 64 ∧ 1 ≤ n ∧ n ≤ 1024
  base : base ≤ w.heap.size
  tab : TabW w ∧ gTab < B0
/-- What a step of the code leaves. -/
def CodeP (b M g n : Nat) (most : Int) (ks : List (Int × Ow)) (L1 : LB) (w w' : World) : Prop := ∃ k1, BD w' b M g n most (cO k1) k1 ∧ mapV Ow.f k1 = L1 ∧ Mod (BDb b M g ks) w w' ∧ ∀ i, BDb b M g k1 i → BDb b M g ks i ∨ w.heap.size ≤ i
/-- .. and one of the reference. -/
def RefP (n b base : Nat) (most : Int) (ks : List (Int × Rp)) (L1 : LB) (w w' : World) : Prop := ∃ k2, StepR n b base most ks k2 w w' ∧ mapV Rp.f k2 = L1
def TwoP (w : World) (B0 b b' n : Nat) (most : Int) (L : LB) : Prop := ∃ M g ks base ks', TwoB w B0 b M g ks b' base ks' n most L

theorem TwoB.B0 {w : World} {B0 b M g : Nat} {ks : List (Int × Ow)} {b' base : Nat} {ks' : List (Int × Rp)} {n : Nat} {most : Int} {L : LB} (h : TwoB w B0 b M g ks b' base ks' n most L) : B0 ≤ b ∧ B0 < w.heap.size := by
  have h1 := h.low b (.inl (.inl rfl))
  have h2 := h.bd.lt (i := b) (.inl rfl)
  omega
theorem TwoB.len {w : World} {B0 b M g : Nat} {ks : List (Int × Ow)} {b' base : Nat} {ks' : List (Int × Rp)} {n : Nat} {most : Int} {L : LB} (h : TwoB w B0 b M g ks b' base ks' n most L) : ks.length ≤ 64 ∧ ks'.length ≤ 64 ∧ ks.length = L.length ∧ ks'.length = L.length := by
  have h1 := congrArg List.length h.e1
  have h2 := congrArg List.length h.e2
  rw [mapV_len] at h1 h2
  have := h.ok.len
  have := h.sm
  omega
theorem TwoB.rise {w : World} {B0 b M g : Nat} {ks : List (Int × Ow)} {b' base : Nat} {ks' : List (Int × Rp)} {n : Nat} {most : Int} {L : LB} (h : TwoB w B0 b M g ks b' base ks' n most L) : Rising ks ∧ Rising ks' :=
  ⟨(rising_mapV Ow.f).1 (by rw [h.e1]; exact h.ok.rise), (rising_mapV Rp.f).1 (by rw [h.e2]; exact h.ok.rise)⟩
theorem TwoB.new {w w' : World} {B0 b M g : Nat} {ks : List (Int × Ow)} {b' base : Nat} {ks' : List (Int × Rp)} {n : Nat} {most : Int} {L : LB} (h : TwoB w B0 b M g ks b' base ks' n most L) (hm : Mod (fun _ => False) w w') : TwoB w' B0 b M g ks b' base ks' n most L := by
  have hr := h.rd.modB hm (fun _ _ h => h)
  refine ⟨h.bd.new hm, hr.1, h.e1, h.e2, fun i hi hj => h.ap i hi (hr.2 i hj), fun i hi => h.low i (hi.imp_right (hr.2 i)), h.ok, h.sm, ?_, h.tab.1.mod hm (fun h => h), h.tab.2⟩
  have := h.base
  have := hm.size
  omega
theorem TwoB.mid {w w1 : World} {B0 b M g : Nat} {ks : List (Int × Ow)} {b' base : Nat} {ks' : List (Int × Rp)} {n : Nat} {most : Int} {L : LB} (h : TwoB w B0 b M g ks b' base ks' n most L) (hm : Mod (BDb b M g ks) w w1) : RD w1 b' base n most ks' ∧ ∀ i, RDb w1 b' ks' i → RDb w b' ks' i :=
  h.rd.modB hm fun i hi hb => h.ap i hb hi
theorem TwoB.both {w w1 w2 : World} {B0 b M g : Nat} {ks : List (Int × Ow)} {b' base : Nat} {ks' : List (Int × Rp)} {n : Nat} {most : Int} {L L1 : LB} (h : TwoB w B0 b M g ks b' base ks' n most L) (hc : CodeP b M g n most ks L1 w w1) (hr : RefP n b' base most ks' L1 w1 w2) (hok : OkB most L1) : TwoP w2 B0 b b' n most L1 ∧ Mod (fun i => B0 ≤ i) w w2 := by
  obtain ⟨k1, hbd, f1, hm, hnew⟩ := hc
  obtain ⟨k2, ⟨hr1, hr2, hr3⟩, f2⟩ := hr
  obtain ⟨r1, r2⟩ := h.mid hm
  have hz1 := hm.size
  have hz2 := hr2.size
  have hB := h.B0
  have ap1 : ∀ i, BDb b M g k1 i → ¬ RDb w1 b' ks' i := fun i hi hj => by
    rcases hnew i hi with e | e
    · exact h.ap i e (r2 i hj)
    · have := h.rd.low (r2 i hj); omega
  refine ⟨⟨M, g, k1, base, k2, hbd.mod hr2 ap1, hr1, f1, f2, fun i hi hj => ?_, fun i hi => ?_, hok, h.sm, by have := h.base; omega, (h.tab.1.mod hm fun e => ?_).mod hr2 fun e => ?_, h.tab.2⟩, (hm.mono fun i _ e => h.low i (.inl e)).trans (hr2.mono fun i _ e => h.low i (.inr (r2 i e)))⟩
  · rcases hr3 i hj with e | e
    · exact ap1 i hi e
    · have := hbd.lt hi; omega
  · rcases hi with hi | hi
    · rcases hnew i hi with e | e
      · exact h.low i (.inl e)
      · omega
    · rcases hr3 i hi with e | e
      · exact h.low i (.inr (r2 i e))
      · omega
  · have := h.low _ (.inl e); have := h.tab.2; omega
  · have := h.low _ (.inr (r2 _ e)); have := h.tab.2; omega
theorem CodeP.same {w w' : World} {b M g n : Nat} {most : Int} {ks : List (Int × Ow)} {L : LB} (h : BD w b M g n most (cO ks) ks) (he : mapV Ow.f ks = L) (hm : Mod (fun _ => False) w w') : CodeP b M g n most ks L w w' :=
  ⟨ks, h.new hm, he, hm.mono fun _ _ h => h.elim, fun _ h => .inl h⟩
theorem RefP.same {w w' : World} {b base n : Nat} {most : Int} {ks : List (Int × Rp)} {L : LB} (h : RD w b base n most ks) (he : mapV Rp.f ks = L) (hm : Mod (fun _ => False) w w') : RefP n b base most ks L w w' :=
  have hr := h.modB hm fun _ _ h => h
  ⟨ks, ⟨hr.1, hm.mono fun _ _ h => h.elim, fun i hi => .inl (hr.2 i hi)⟩, he⟩

/-- A set of the code's, or none. -/
def SoB (lo : Nat) (w : World) (so : Option Nat) (x : Option (Nat × (Nat → Bool))) : Prop := (so = none ∧ x = none) ∨ ∃ s sg n f, so = some s ∧ x = some (n, f) ∧ BSet w s sg n f ∧ lo ≤ s ∧ lo ≤ sg
/-- .. of the reference's. -/
def SoR (lo : Nat) (w : World) (so : Option Nat) (x : Option (Nat × (Nat → Bool))) : Prop := (so = none ∧ x = none) ∨ ∃ s sg n f, so = some s ∧ x = some (n, f) ∧ RSet w s sg n f ∧ lo ≤ s ∧ lo ≤ sg
theorem lk_abs {ks : List (Int × Ow)} {L : LB} (h : mapV Ow.f ks = L) (p : Int) : lkL L p = (lkL ks p).map Ow.f := by rw [← h, lk_mapV]
theorem lk_absR {ks : List (Int × Rp)} {L : LB} (h : mapV Rp.f ks = L) (p : Int) : lkL L p = (lkL ks p).map Rp.f := by rw [← h, lk_mapV]

theorem bdb_put {b M g : Nat} {ks : List (Int × Ow)} {peer : Int} {x y z : Nat} {f : Nat → Bool} (hx : z ≤ x) (hy : z ≤ y) : ∀ i, BDb b M g (putL ks peer ⟨x, y, f⟩) i → BDb b M g ks i ∨ z ≤ i := by
  intro i hi
  rcases hi with e | e | e | ⟨q, hq, e⟩
  · exact .inl (.inl e)
  · exact .inl (.inr (.inl e))
  · exact .inl (.inr (.inr (.inl e)))
  · rcases mem_putO hq with rfl | hq
    · rcases e with e | e
      · exact .inr (by rw [e]; exact hx)
      · exact .inr (by rw [e]; exact hy)
    · exact .inl (.inr (.inr (.inr ⟨q, hq, e⟩)))
theorem cO_rng {ks : List (Int × Ow)} (h : ks.length ≤ 64) : ∀ k, -900 ≤ cO ks k ∧ cO ks k ≤ 900 := fun k => by have := cO_bd ks k; omega

/-- The code's Set, whole. -/
theorem codeSet (peer : Int) (so : Option Nat) (x : Option (Nat × (Nat → Bool))) (b M g n : Nat) (most : Int) (ks : List (Int × Ow)) (L : LB) (w : World) (h : BD w b M g n most (cO ks) ks) (he : mapV Ow.f ks = L) (hT : TabW w) (hl : ks.length ≤ 64) (hn : n ≤ 1024) (hI : I64 peer) {lo : Nat} (hs : SoB lo w so x) (hlo : ∀ i, BDb b M g ks i → i < lo) :
    Calls Tryz.prog 56 #[.pointer (some ⟨b, 0, none⟩), .int .i64 peer, .pointer (so.map fun s => ⟨s, 0, none⟩)] w fun e w' => e = .returned (.int .i64 (setA n most L peer x).1) ∧ CodeP b M g n most ks (setA n most L peer x).2 w w' := by
  have hbad : (¬ (1 ≤ peer ∧ peer ≤ 65536) ∨ so = none ∨ ∃ s sg n' f, so = some s ∧ BSet w s sg n' f ∧ n' ≠ n) → setA n most L peer x = (1, L) → Calls Tryz.prog 56 #[.pointer (some ⟨b, 0, none⟩), .int .i64 peer, .pointer (so.map fun s => ⟨s, 0, none⟩)] w (fun e w' => e = .returned (.int .i64 (setA n most L peer x).1) ∧ CodeP b M g n most ks (setA n most L peer x).2 w w') := fun h1 h2 => by
    rw [h2]
    exact (rareSetBad peer so b M g n most (cO ks) ks w h hI h1).mono (by rintro e w1 ⟨rfl, m1⟩; exact ⟨rfl, CodeP.same h he m1⟩)
  rcases hs with ⟨rfl, rfl⟩ | ⟨s, sg, m, f, rfl, rfl, hb, l1, l2⟩
  · exact hbad (.inr (.inl rfl)) rfl
  · by_cases hp : 1 ≤ peer ∧ peer ≤ 65536
    · by_cases hmn : m = n
      · subst hmn
        have hap : ApartO b M g ks s sg := fun i hi => by have := hlo i hi; omega
        have hlen : L.length = ks.length := by rw [← he, mapV_len]
        have hr := h.rising
        have e0 : setA m most L peer (some (m, f)) = if (lkL L peer).isSome = true ∨ (L.length : Int) < most then (0, putL L peer f) else (3, L) := by unfold setA; dsimp only; rw [if_pos ⟨hp, rfl⟩]
        rw [e0]
        have hput : ∀ x y : Nat, mapV Ow.f (putL ks peer ⟨x, y, f⟩) = putL L peer f := fun x y => by rw [← put_mapV, he]
        cases hk : lkL ks peer with
        | some o =>
          rw [if_pos (.inl (by rw [lk_abs he, hk]; rfl))]
          refine (rareSetKnown peer o s sg b M g m most (cO ks) ks f w h hb hT hap hp (cO_rng hl) hn (by omega) hk).mono ?_
          rintro e w1 ⟨x, y, rfl, b1, m1, hx, hy⟩
          refine ⟨rfl, _, b1.ext fun k _ => ?_, hput x y, m1.mono fun i _ e => e.elim (fun e => .inr (.inl e)) fun e => .inr (.inr (.inl e)), bdb_put hx hy⟩
          rw [cO_put, cnK_all hb.out, cnK_all (h.sets _ (lk_some_mem hk)).out, cO_del k hr (lk_some_mem hk)]
          dsimp only
          split <;> split <;> omega
        | none =>
          have hk' : (lkL L peer).isSome = true → False := by rw [lk_abs he, hk]; simp
          by_cases hroom : (L.length : Int) < most
          · rw [if_pos (.inr hroom)]
            refine (rareSetNew peer s sg b M g m most (cO ks) ks f w h hb hT hap hp (cO_rng hl) hn (by omega) hk (by omega)).mono ?_
            rintro e w1 ⟨x, y, rfl, b1, m1, hx, hy⟩
            refine ⟨rfl, _, b1.ext fun k _ => ?_, hput x y, m1.mono fun i _ e => e.elim (fun e => .inr (.inl e)) fun e => .inr (.inr (.inl e)), bdb_put hx hy⟩
            rw [cO_put, cnK_all hb.out, del_none hk]
            dsimp only
            split <;> omega
          · rw [if_neg (by rintro (e | e); exact hk' e; exact hroom e)]
            refine (rareSetFull peer s sg b M g m most (cO ks) ks f w h hb hp hk (by omega)).mono ?_
            rintro e w1 ⟨rfl, m1⟩
            exact ⟨rfl, CodeP.same h he m1⟩
      · exact hbad (.inr (.inr ⟨s, sg, m, f, rfl, hb, hmn⟩)) (by unfold setA; dsimp only; rw [if_neg (fun e => hmn e.2)])
    · exact hbad (.inl hp) (by unfold setA; dsimp only; rw [if_neg (fun e => hp e.1)])
/-- .. Add. -/
theorem codeAdd (peer k : Int) (b M g n : Nat) (most : Int) (ks : List (Int × Ow)) (L : LB) (w : World) (h : BD w b M g n most (cO ks) ks) (he : mapV Ow.f ks = L) (hl : ks.length ≤ 64) (hI : I64 peer) :
    Calls Tryz.prog 60 #[.pointer (some ⟨b, 0, none⟩), .int .i64 peer, .int .i64 k] w fun e w' => e = .returned (.int .i64 (addA n L peer k).1) ∧ CodeP b M g n most ks (addA n L peer k).2 w w' := by
  unfold addA
  rw [lk_abs he]
  cases hk : lkL ks peer with
  | none =>
    refine (rareAddNo peer k b M g n most (cO ks) ks w h hI hk).mono ?_
    rintro e w1 ⟨rfl, rfl⟩
    exact ⟨rfl, CodeP.same h he (Mod.refl _ _)⟩
  | some o =>
    show Calls _ _ _ _ fun e w' => e = .returned (.int .i64 (if 0 ≤ k ∧ k < n then ((0 : Int), putL L peer (fil o.f k.toNat (k.toNat + 1) true)) else (1, L)).1) ∧ CodeP b M g n most ks (if 0 ≤ k ∧ k < n then ((0 : Int), putL L peer (fil o.f k.toNat (k.toNat + 1) true)) else (1, L)).2 w w'
    have hmem := lk_some_mem hk
    by_cases hkn : 0 ≤ k ∧ k < n
    · rw [if_pos hkn]
      obtain ⟨j, rfl⟩ : ∃ j : Nat, k = (j : Int) := ⟨k.toNat, by omega⟩
      rw [Int.toNat_natCast]
      refine (rareAdd peer j o b M g n most (cO ks) ks w h hI (cO_rng hl) hk (by omega)).mono ?_
      rintro e w1 ⟨rfl, b1, m1⟩
      have hx : ∀ i, i = o.g ∨ i = g → BDb b M g ks i := fun i e => e.elim (fun e => .inr (.inr (.inr ⟨_, hmem, .inr e⟩))) fun e => .inr (.inr (.inl e))
      refine ⟨rfl, _, b1.ext fun i _ => ?_, by rw [← he]; exact (put_mapV Ow.f ks peer ⟨o.s, o.g, fil o.f j (j + 1) true⟩).symm, m1.mono fun i _ e => hx i e, fun i hi => ?_⟩
      · rw [cO_put]
        have := cO_del i h.rising hmem
        unfold addC
        rw [this]
        have hf : fil o.f j (j + 1) true i = if i = j then true else o.f i := by
          unfold fil
          by_cases hij : i = j
          · rw [if_pos (by omega), if_pos hij]
          · rw [if_neg (by omega), if_neg hij]
        dsimp only
        simp only [hf]
        by_cases hij : i = j
        · subst hij
          rw [if_pos rfl, if_pos rfl]
          cases ho : o.f i
          · rw [if_pos ⟨rfl, rfl⟩, if_neg (by decide)]; omega
          · rw [if_neg (by rintro ⟨_, e⟩; exact absurd e (by decide)), if_pos rfl]
        · simp [hij]
      · rcases hi with e | e | e | ⟨q, hq, e⟩
        · exact .inl (.inl e)
        · exact .inl (.inr (.inl e))
        · exact .inl (.inr (.inr (.inl e)))
        · rcases mem_putO hq with rfl | hq
          · exact .inl (.inr (.inr (.inr ⟨_, hmem, e⟩)))
          · exact .inl (.inr (.inr (.inr ⟨q, hq, e⟩)))
    · rw [if_neg hkn]
      refine (rareAddBad peer k o b M g n most (cO ks) ks w h hI hk (by omega)).mono ?_
      rintro e w1 ⟨rfl, rfl⟩
      exact ⟨rfl, CodeP.same h he (Mod.refl _ _)⟩
/-- .. Gone. -/
theorem codeGone (peer : Int) (b M g n : Nat) (most : Int) (ks : List (Int × Ow)) (L : LB) (w : World) (h : BD w b M g n most (cO ks) ks) (he : mapV Ow.f ks = L) (hT : TabW w) (hl : ks.length ≤ 64) (hn : n ≤ 1024) (hI : I64 peer) :
    Calls Tryz.prog 61 #[.pointer (some ⟨b, 0, none⟩), .int .i64 peer] w fun e w' => e = .returned (.int .i64 (goneA L peer).1) ∧ CodeP b M g n most ks (goneA L peer).2 w w' := by
  unfold goneA
  rw [lk_abs he]
  cases hk : lkL ks peer with
  | none =>
    refine (rareGoneNo peer b M g n most (cO ks) ks w h hI hk).mono ?_
    rintro e w1 ⟨rfl, rfl⟩
    exact ⟨rfl, CodeP.same h he (Mod.refl _ _)⟩
  | some o =>
    refine (rareGone peer o b M g n most (cO ks) ks w h hT hI (cO_rng hl) hn hk).mono ?_
    rintro e w1 ⟨rfl, b1, m1⟩
    have hmem := lk_some_mem hk
    refine ⟨rfl, _, b1.ext fun i _ => ?_, by rw [← he]; exact (del_mapV Ow.f ks peer).symm, m1.mono fun i _ e => e.elim (fun e => .inr (.inl e)) fun e => .inr (.inr (.inl e)), fun i hi => ?_⟩
    · rw [cnK_all (h.sets _ hmem).out, cO_del i h.rising hmem]
      dsimp only
      split <;> omega
    · rcases hi with e | e | e | ⟨q, hq, e⟩
      · exact .inl (.inl e)
      · exact .inl (.inr (.inl e))
      · exact .inl (.inr (.inr (.inl e)))
      · exact .inl (.inr (.inr (.inr ⟨q, (List.mem_filter.1 hq).1, e⟩)))
/-- .. Pick. -/
theorem codePick (peer seed : Int) (so : Option Nat) (x : Option (Nat × (Nat → Bool))) (b M g n : Nat) (most : Int) (ks : List (Int × Ow)) (L : LB) (w : World) (h : BD w b M g n most (cO ks) ks) (he : mapV Ow.f ks = L) (hT : TabW w) (hn : n ≤ 1024) (hI : I64 peer) {lo : Nat} (hs : SoB lo w so x) :
    Calls Tryz.prog 47 #[.pointer (some ⟨b, 0, none⟩), .int .i64 peer, .pointer (so.map fun s => ⟨s, 0, none⟩), .int .u64 seed] w fun e w' => e = .returned (.int .i64 (pickA n L peer x seed)) ∧ Mod (fun _ => False) w w' := by
  have hbad : (lkL ks peer = none ∨ so = none ∨ ∃ s sg n' f, so = some s ∧ BSet w s sg n' f ∧ n' ≠ n) → pickA n L peer x seed = -1 → Calls Tryz.prog 47 #[.pointer (some ⟨b, 0, none⟩), .int .i64 peer, .pointer (so.map fun s => ⟨s, 0, none⟩), .int .u64 seed] w (fun e w' => e = .returned (.int .i64 (pickA n L peer x seed)) ∧ Mod (fun _ => False) w w') := fun h1 h2 => by
    rw [h2]
    exact rarePickNo peer seed so b M g n most (cO ks) ks w h hI h1
  rcases hs with ⟨rfl, rfl⟩ | ⟨s, sg, m, f, rfl, rfl, hb, l1, l2⟩
  · exact hbad (.inr (.inl rfl)) rfl
  · by_cases hmn : m = n
    · subst hmn
      cases hk : lkL ks peer with
      | none => exact hbad (.inl hk) (by unfold pickA; dsimp only; rw [if_pos rfl, lk_abs he, hk]; rfl)
      | some o =>
        have e0 : pickA m L peer (some (m, f)) seed = pickR (cO ks) (fLess o.f f) m seed := by
          have : cO ks = cF L := by funext j; rw [cO_cF, he]
          rw [this]
          unfold pickA; dsimp only; rw [if_pos rfl, lk_abs he, hk]; rfl
        rw [e0]
        exact rarePick peer seed o s sg b M g m most (cO ks) ks f w h hb hT hI hk hn
    · exact hbad (.inr (.inr ⟨s, sg, m, f, rfl, hb, hmn⟩)) (by unfold pickA; dsimp only; rw [if_neg hmn])
end Go.Proofs.YtjmfhcliggjdgaaGreatDoor

/- The laws on conn: what is known and what is on the way, the program's swarm, what a step of it leaves; no condition. -/
namespace Go.Proofs.YtjmfhcliggjdgaaGreatDoor
open Go Go.RowKit

abbrev LT := List (Int × Fl.Rq)
/-- What is not to be asked for. -/
def outF (n : Nat) (f : Nat → Bool) (T : LT) : Nat → Bool := fun i => decide (i < n) && (f i || (lkL T (i : Int)).isSome)
theorem lk_append {α : Type} (a b : List (Int × α)) (k : Int) : lkL (a ++ b) k = (lkL a k).or (lkL b k) := by
  unfold lkL
  rw [List.find?_append]
  cases a.find? fun p => p.1 == k <;> rfl
theorem outF_nil (n : Nat) (f : Nat → Bool) (i : Nat) (h : ∀ i, n ≤ i → f i = false) : outF n f [] i = f i := by
  unfold outF
  by_cases hi : i < n
  · simp [hi, lkL]
  · simp [hi, h i (by omega)]
theorem outF_snoc (n : Nat) (f : Nat → Bool) (T : LT) (j : Nat) (r : Fl.Rq) (hj : j < n) : outF n f (T ++ [((j : Int), r)]) = fil (outF n f T) j (j + 1) true := by
  funext i
  unfold outF fil
  rw [lk_append]
  by_cases e : i = j
  · subst e
    rw [if_pos (by omega)]
    simp [hj, lkL]
  · rw [if_neg (by omega)]
    have : lkL [((j : Int), r)] (i : Int) = none := by unfold lkL; rw [List.find?_eq_none.2 (by simp; omega)]; rfl
    rw [this, Option.or_none]
theorem outF_put (n : Nat) (f : Nat → Bool) (T : LT) (j : Nat) (r : Fl.Rq) (hj : j < n) : outF n f (putL T (j : Int) r) = fil (outF n f T) j (j + 1) true := by
  funext i
  unfold outF fil
  by_cases e : i = j
  · subst e
    rw [if_pos (by omega), lk_put, if_pos rfl]
    simp [hj]
  · rw [if_neg (by omega), lk_put, if_neg (by omega)]
theorem outF_out (n : Nat) (f : Nat → Bool) (T : LT) (i : Nat) (h : n ≤ i) : outF n f T i = false := by
  unfold outF
  rw [decide_eq_false (by omega)]; rfl

theorem rqL_put (l : LT) (x : Int) (r : Fl.Rq) : Fl.rqL (l ++ [(x, r)]) = Fl.rqL l ++ [.int .i64 r.p, .int .i64 x, .int .i64 r.t] := by unfold Fl.rqL; rw [List.flatMap_append]; rfl
theorem Mod.trans2 {A B : Nat → Prop} {a b c : World} (h : Mod A a b) (k : Mod B b c) (hS : ∀ i, B i → A i ∨ a.heap.size ≤ i) : Mod A a c :=
  ⟨k.os.trans h.os, k.tape.trans h.tape, k.output.trans h.output, Nat.le_trans h.size k.size, fun i hi hs => (k.block i (Nat.lt_of_lt_of_le hi h.size) fun e => (hS i e).elim hs (by omega)).trans (h.block i hi hs)⟩
/-- The blocks of the program's swarm. -/
def SWb (s b M g t tM : Nat) (ks : List (Int × Ow)) (i : Nat) : Prop := i = s ∨ BDb b M g ks i ∨ i = t ∨ i = tM
/-- The program's swarm. -/
structure SW (w : World) (s b M g t tM n : Nat) (pm mo ea pa : Int) (ks : List (Int × Ow)) (T : LT) : Prop where
  blk : Blk w s #[.int .i64 n, .pointer (some ⟨b, 0, none⟩), .pointer (some ⟨t, 0, none⟩)] 74
  bd : BD w b M g n pm (cO ks) ks
  tb : Fl.TB w t tM mo ea pa T
  s1 : ¬ BDb b M g ks s
  s2 : s ≠ t ∧ s ≠ tM
  s3 : ¬ BDb b M g ks t ∧ ¬ BDb b M g ks tM
theorem SW.lt {w : World} {s b M g t tM n : Nat} {pm mo ea pa : Int} {ks : List (Int × Ow)} {T : LT} (h : SW w s b M g t tM n pm mo ea pa ks T) {i : Nat} (hi : SWb s b M g t tM ks i) : i < w.heap.size := by
  rcases hi with rfl | hi | rfl | rfl
  · exact h.blk.lt
  · exact h.bd.lt hi
  · exact h.tb.lt.1
  · exact h.tb.lt.2
theorem SW.mod {S : Nat → Prop} {w w' : World} {s b M g t tM n : Nat} {pm mo ea pa : Int} {ks : List (Int × Ow)} {T : LT} (h : SW w s b M g t tM n pm mo ea pa ks T) (hm : Mod S w w') (hS : ∀ i, SWb s b M g t tM ks i → ¬ S i) : SW w' s b M g t tM n pm mo ea pa ks T :=
  ⟨h.blk.mod hm (hS _ (.inl rfl)), h.bd.mod hm fun i hi => hS i (.inr (.inl hi)), h.tb.mod hm (hS _ (.inr (.inr (.inl rfl)))) (hS _ (.inr (.inr (.inr rfl)))), h.s1, h.s2, h.s3⟩
theorem SW.new {w w' : World} {s b M g t tM n : Nat} {pm mo ea pa : Int} {ks : List (Int × Ow)} {T : LT} (h : SW w s b M g t tM n pm mo ea pa ks T) (hm : Mod (fun _ => False) w w') : SW w' s b M g t tM n pm mo ea pa ks T := h.mod hm fun _ _ h => h
theorem SW.drewN {w : World} {s b M g t tM n : Nat} {pm mo ea pa : Int} {ks : List (Int × Ow)} {T : LT} (h : SW w s b M g t tM n pm mo ea pa ks T) (k : Nat) : SW (w.drewN k) s b M g t tM n pm mo ea pa ks T := h.new ((Mod.refl _ w).drewN k)
/-- The table alone is written. -/
theorem SW.tmod {w w' : World} {s b M g t tM n : Nat} {pm mo ea pa : Int} {ks : List (Int × Ow)} {T T1 : LT} (h : SW w s b M g t tM n pm mo ea pa ks T) (ht : Fl.TB w' t tM mo ea pa T1) (hm : Mod (· = tM) w w') : SW w' s b M g t tM n pm mo ea pa ks T1 :=
  ⟨h.blk.mod hm h.s2.2, h.bd.mod hm fun i hi e => h.s3.2 (by rw [← e]; exact hi), ht, h.s1, h.s2, h.s3⟩
/-- What a step of the program leaves. -/
def StS (s b M g t tM n : Nat) (pm mo ea pa : Int) (ks : List (Int × Ow)) (L1 : LB) (T1 : LT) (w w' : World) : Prop :=
  ∃ k1, SW w' s b M g t tM n pm mo ea pa k1 T1 ∧ mapV Ow.f k1 = L1 ∧ Mod (SWb s b M g t tM ks) w w' ∧ ∀ i, SWb s b M g t tM k1 i → SWb s b M g t tM ks i ∨ w.heap.size ≤ i
theorem StS.tmod {w w' : World} {s b M g t tM n : Nat} {pm mo ea pa : Int} {ks : List (Int × Ow)} {L : LB} {T T1 : LT} (h : SW w s b M g t tM n pm mo ea pa ks T) (he : mapV Ow.f ks = L) (ht : Fl.TB w' t tM mo ea pa T1) (hm : Mod (· = tM) w w') : StS s b M g t tM n pm mo ea pa ks L T1 w w' :=
  ⟨ks, h.tmod ht hm, he, hm.mono fun _ _ e => .inr (.inr (.inr e)), fun _ hi => .inl hi⟩
theorem StS.same {w w' : World} {s b M g t tM n : Nat} {pm mo ea pa : Int} {ks : List (Int × Ow)} {L : LB} {T : LT} (h : SW w s b M g t tM n pm mo ea pa ks T) (he : mapV Ow.f ks = L) (hm : Mod (fun _ => False) w w') : StS s b M g t tM n pm mo ea pa ks L T w w' :=
  ⟨ks, h.new hm, he, hm.mono fun _ _ e => e.elim, fun _ hi => .inl hi⟩
/-- The board alone is written. -/
theorem StS.board {w w' : World} {s b M g t tM n : Nat} {pm mo ea pa : Int} {ks : List (Int × Ow)} {L1 : LB} {T : LT} (h : SW w s b M g t tM n pm mo ea pa ks T) (hc : CodeP b M g n pm ks L1 w w') : StS s b M g t tM n pm mo ea pa ks L1 T w w' := by
  obtain ⟨k1, hbd, he, hm, hnew⟩ := hc
  have hold : ∀ i, SWb s b M g t tM ks i → BDb b M g k1 i → BDb b M g ks i := fun i hi hb => (hnew i hb).elim id fun e => by have := h.lt hi; omega
  refine ⟨k1, ⟨h.blk.mod hm h.s1, hbd, h.tb.mod hm h.s3.1 h.s3.2, fun e => h.s1 (hold _ (.inl rfl) e), h.s2, fun e => h.s3.1 (hold _ (.inr (.inr (.inl rfl))) e), fun e => h.s3.2 (hold _ (.inr (.inr (.inr rfl))) e)⟩, he, hm.mono fun _ _ e => .inr (.inl e), fun i hi => ?_⟩
  rcases hi with e | e | e | e
  · exact .inl (.inl e)
  · exact (hnew i e).imp (fun e => .inr (.inl e)) id
  · exact .inl (.inr (.inr (.inl e)))
  · exact .inl (.inr (.inr (.inr e)))
theorem StS.trans {w w1 w' : World} {s b M g t tM n : Nat} {pm mo ea pa : Int} {ks k1 : List (Int × Ow)} {L2 : LB} {T2 : LT} (hm : Mod (SWb s b M g t tM ks) w w1) (hn : ∀ i, SWb s b M g t tM k1 i → SWb s b M g t tM ks i ∨ w.heap.size ≤ i) (h2 : StS s b M g t tM n pm mo ea pa k1 L2 T2 w1 w') : StS s b M g t tM n pm mo ea pa ks L2 T2 w w' := by
  obtain ⟨k2, h3, e, m2, n2⟩ := h2
  refine ⟨k2, h3, e, hm.trans2 m2 hn, fun i hi => ?_⟩
  rcases n2 i hi with h | h
  · exact hn i h
  · exact .inr (Nat.le_trans hm.size h)
end Go.Proofs.YtjmfhcliggjdgaaGreatDoor

/- The laws on rarest: the reference's operations whole; what sets answers; no condition but the table. -/
namespace Go.Proofs.YtjmfhcliggjdgaaGreatDoor
open Go Go.RowKit

/-- The reference's Set, whole. -/
theorem refSet (peer : Int) (so : Option Nat) (x : Option (Nat × (Nat → Bool))) (b base n : Nat) (most : Int) (ks : List (Int × Rp)) (L : LB) (w : World) (h : RD w b base n most ks) (he : mapV Rp.f ks = L) (hr : Rising ks) (hl : ks.length ≤ 64) (hn : 1 ≤ n ∧ n ≤ 1024) (hbase : base ≤ w.heap.size) {lo : Nat} (hs : SoR lo w so x) :
    Calls Tryz.prog 30 #[.pointer (some ⟨b, 0, none⟩), .int .i64 peer, .pointer (so.map fun s => ⟨s, 0, none⟩)] w fun e w' => e = .returned (.int .i64 (setA n most L peer x).1) ∧ RefP n b base most ks (setA n most L peer x).2 w w' := by
  have hbad : (¬ (1 ≤ peer ∧ peer ≤ 65536) ∨ so = none ∨ ∃ s sg n' f, so = some s ∧ RSet w s sg n' f ∧ n' ≠ n) → setA n most L peer x = (1, L) → Calls Tryz.prog 30 #[.pointer (some ⟨b, 0, none⟩), .int .i64 peer, .pointer (so.map fun s => ⟨s, 0, none⟩)] w (fun e w' => e = .returned (.int .i64 (setA n most L peer x).1) ∧ RefP n b base most ks (setA n most L peer x).2 w w') := fun h1 h2 => by
    rw [h2]
    exact (refRSetBad peer so b base n most ks w h h1).mono (by rintro e w1 ⟨rfl, m1⟩; exact ⟨rfl, RefP.same h he m1⟩)
  rcases hs with ⟨rfl, rfl⟩ | ⟨s, sg, m, f, rfl, rfl, hb, -, -⟩
  · exact hbad (.inr (.inl rfl)) rfl
  · by_cases hp : 1 ≤ peer ∧ peer ≤ 65536
    · by_cases hmn : m = n
      · subst hmn
        have hlen : L.length = ks.length := by rw [← he, mapV_len]
        have e0 : setA m most L peer (some (m, f)) = if (lkL L peer).isSome = true ∨ (L.length : Int) < most then (0, putL L peer f) else (3, L) := by unfold setA; dsimp only; rw [if_pos ⟨hp, rfl⟩]
        rw [e0]
        have hput : ∀ x y : Nat, mapV Rp.f (putL ks peer ⟨x, y, f⟩) = putL L peer f := fun x y => by rw [← put_mapV, he]
        cases hk : lkL ks peer with
        | some o =>
          rw [if_pos (.inl (by rw [lk_absR he, hk]; rfl))]
          obtain ⟨i, hi⟩ := List.mem_iff_getElem?.1 (lk_some_mem hk)
          refine (refRSetKnown peer i o s sg b base m most ks f w h hb (by omega) hr hbase hn hp hi).mono ?_
          rintro e w1 ⟨rfl, x, y, h1⟩
          exact ⟨rfl, _, h1, hput x y⟩
        | none =>
          have hk' : (lkL L peer).isSome = true → False := by rw [lk_absR he, hk]; simp
          by_cases hroom : (L.length : Int) < most
          · rw [if_pos (.inr hroom)]
            refine (refRSetNew peer s sg b base m most ks f w h hb (by omega) hr hbase hn hp hk (by omega)).mono ?_
            rintro e w1 ⟨rfl, x, y, h1⟩
            exact ⟨rfl, _, h1, hput x y⟩
          · rw [if_neg (by rintro (e | e); exact hk' e; exact hroom e)]
            refine (refRSetFull peer s sg b base m most ks f w h hb (by omega) hr hbase hn hp hk (by omega)).mono ?_
            rintro e w1 ⟨rfl, m1⟩
            exact ⟨rfl, RefP.same h he m1⟩
      · exact hbad (.inr (.inr ⟨s, sg, m, f, rfl, hb, hmn⟩)) (by unfold setA; dsimp only; rw [if_neg (fun e => hmn e.2)])
    · exact hbad (.inl hp) (by unfold setA; dsimp only; rw [if_neg (fun e => hp e.1)])
/-- .. Add. -/
theorem refAdd (peer k : Int) (b base n : Nat) (most : Int) (ks : List (Int × Rp)) (L : LB) (w : World) (h : RD w b base n most ks) (he : mapV Rp.f ks = L) (hr : Rising ks) (hl : ks.length ≤ 64) :
    Calls Tryz.prog 32 #[.pointer (some ⟨b, 0, none⟩), .int .i64 peer, .int .i64 k] w fun e w' => e = .returned (.int .i64 (addA n L peer k).1) ∧ RefP n b base most ks (addA n L peer k).2 w w' := by
  unfold addA
  rw [lk_absR he]
  cases hk : lkL ks peer with
  | none =>
    refine (refRAddNo peer k b base n most ks w h (by omega) hr hk).mono ?_
    rintro e w1 ⟨rfl, rfl⟩
    exact ⟨rfl, RefP.same h he (Mod.refl _ _)⟩
  | some o =>
    show Calls _ _ _ _ fun e w' => e = .returned (.int .i64 (if 0 ≤ k ∧ k < n then ((0 : Int), putL L peer (fil o.f k.toNat (k.toNat + 1) true)) else (1, L)).1) ∧ RefP n b base most ks (if 0 ≤ k ∧ k < n then ((0 : Int), putL L peer (fil o.f k.toNat (k.toNat + 1) true)) else (1, L)).2 w w'
    obtain ⟨i, hi⟩ := List.mem_iff_getElem?.1 (lk_some_mem hk)
    by_cases hkn : 0 ≤ k ∧ k < n
    · rw [if_pos hkn]
      obtain ⟨j, rfl⟩ : ∃ j : Nat, k = (j : Int) := ⟨k.toNat, by omega⟩
      rw [Int.toNat_natCast]
      refine (refRAdd peer j i o b base n most ks w h (by omega) hr hi (by omega)).mono ?_
      rintro e w1 ⟨rfl, h1⟩
      exact ⟨rfl, _, h1, by rw [← he]; exact (put_mapV Rp.f ks peer ⟨o.g, o.cap, fil o.f j (j + 1) true⟩).symm⟩
    · rw [if_neg hkn]
      refine (refRAddBad peer k i o b base n most ks w h (by omega) hr hi (by omega)).mono ?_
      rintro e w1 ⟨rfl, rfl⟩
      exact ⟨rfl, RefP.same h he (Mod.refl _ _)⟩
/-- .. Gone. -/
theorem refGone (peer : Int) (b base n : Nat) (most : Int) (ks : List (Int × Rp)) (L : LB) (w : World) (h : RD w b base n most ks) (he : mapV Rp.f ks = L) (hr : Rising ks) (hl : ks.length ≤ 64) (hbase : base ≤ w.heap.size) :
    Calls Tryz.prog 63 #[.pointer (some ⟨b, 0, none⟩), .int .i64 peer] w fun e w' => e = .returned (.int .i64 (goneA L peer).1) ∧ RefP n b base most ks (goneA L peer).2 w w' := by
  unfold goneA
  rw [lk_absR he]
  cases hk : lkL ks peer with
  | none =>
    refine (refRGoneNo peer b base n most ks w h (by omega) hr hk).mono ?_
    rintro e w1 ⟨rfl, rfl⟩
    exact ⟨rfl, RefP.same h he (Mod.refl _ _)⟩
  | some o =>
    obtain ⟨i, hi⟩ := List.mem_iff_getElem?.1 (lk_some_mem hk)
    refine (refRGone peer i o b base n most ks w h (by omega) hr hbase hi).mono ?_
    rintro e w1 ⟨rfl, h1⟩
    exact ⟨rfl, _, h1, by rw [← he]; exact (del_mapV Rp.f ks peer).symm⟩
/-- .. Pick. -/
theorem refPick (peer seed : Int) (so : Option Nat) (x : Option (Nat × (Nat → Bool))) (b base n : Nat) (most : Int) (ks : List (Int × Rp)) (L : LB) (w : World) (h : RD w b base n most ks) (he : mapV Rp.f ks = L) (hr : Rising ks) (hl : ks.length ≤ 64) (hn : n ≤ 1024) {lo : Nat} (hs : SoR lo w so x) :
    Calls Tryz.prog 67 #[.pointer (some ⟨b, 0, none⟩), .int .i64 peer, .pointer (so.map fun s => ⟨s, 0, none⟩), .int .u64 seed] w fun e w' => e = .returned (.int .i64 (pickA n L peer x seed)) ∧ Mod (fun _ => False) w w' := by
  have hbad : (lkL ks peer = none ∨ so = none ∨ ∃ s sg n' f, so = some s ∧ RSet w s sg n' f ∧ n' ≠ n) → pickA n L peer x seed = -1 → Calls Tryz.prog 67 #[.pointer (some ⟨b, 0, none⟩), .int .i64 peer, .pointer (so.map fun s => ⟨s, 0, none⟩), .int .u64 seed] w (fun e w' => e = .returned (.int .i64 (pickA n L peer x seed)) ∧ Mod (fun _ => False) w w') := fun h1 h2 => by
    rw [h2]
    exact refRPickNo peer seed so b base n most ks w h hr (by omega) h1
  rcases hs with ⟨rfl, rfl⟩ | ⟨s, sg, m, f, rfl, rfl, hb, -, -⟩
  · exact hbad (.inr (.inl rfl)) rfl
  · by_cases hmn : m = n
    · subst hmn
      cases hk : lkL ks peer with
      | none => exact hbad (.inl hk) (by unfold pickA; dsimp only; rw [if_pos rfl, lk_absR he, hk]; rfl)
      | some o =>
        have e0 : pickA m L peer (some (m, f)) seed = pickR (cF (absR ks)) (fLess o.f f) m seed := by
          have : absR ks = L := he
          rw [this]
          unfold pickA; dsimp only; rw [if_pos rfl, lk_absR he, hk]; rfl
        rw [e0]
        exact refRPick peer seed o s sg b base m most ks f w h hb hr hl hk hn
    · exact hbad (.inr (.inr ⟨s, sg, m, f, rfl, hb, hmn⟩)) (by unfold pickA; dsimp only; rw [if_neg hmn])
/-- What sets answers. -/
def setsX (n : Int) (bs : List Nat) : Option (Nat × (Nat → Bool)) := if 0 ≤ n ∧ n ≤ 1100 then some (n.toNat, F13 n.toNat bs) else none
def SetsAll (x : Option (Nat × (Nat → Bool))) (w : World) (e : Ending) (w' : World) : Prop :=
  ∃ so ro : Option Nat, e = .returned (.tuple #[.pointer (so.map fun s => ⟨s, 0, none⟩), .pointer (ro.map fun s => ⟨s, 0, none⟩)]) ∧ SoB w.heap.size w' so x ∧ SoR w.heap.size w' ro x ∧ Mod (fun _ => False) w w'
theorem setsAll (n : Int) (a : Option Addr) (len cap : Nat) (bs : List Nat) (w : World) (hs : Sl w (.slice a len cap) 1 len (byts bs)) (hb : ∀ x ∈ bs, x < 256) :
    Calls Tryz.prog 12 #[.int .i64 n, .slice a len cap] w (SetsAll (setsX n bs) w) := by
  unfold setsX
  by_cases hn : 0 ≤ n ∧ n ≤ 1100
  · rw [if_pos hn]
    obtain ⟨k, rfl⟩ : ∃ k : Nat, n = (k : Int) := ⟨n.toNat, by omega⟩
    refine (setsOk k a len cap bs w (by omega) hs hb).mono ?_
    rintro e w1 ⟨s, sg, r, rg, rfl, h1, h2, hm, hl, -⟩
    exact ⟨some s, some r, rfl, .inr ⟨s, sg, k, _, rfl, rfl, h1, hl.1, hl.2.1⟩, .inr ⟨r, rg, k, _, rfl, rfl, h2, hl.2.2.1, hl.2.2.2⟩, hm⟩
  · rw [if_neg hn]
    refine (setsNo n a len cap w (by omega)).mono ?_
    rintro e w1 ⟨rfl, hm⟩
    exact ⟨none, none, rfl, .inl ⟨rfl, rfl⟩, .inl ⟨rfl, rfl⟩, hm⟩
/-- A set stays where the code's board is turned. -/
theorem SoR.mod {lo : Nat} {w w' : World} {so : Option Nat} {x : Option (Nat × (Nat → Bool))} (h : SoR lo w so x) {S : Nat → Prop} (hm : Mod S w w') (hS : ∀ i, S i → i < lo) : SoR lo w' so x := by
  rcases h with h | ⟨s, sg, n, f, e1, e2, hr, l1, l2⟩
  · exact .inl h
  · exact .inr ⟨s, sg, n, f, e1, e2, hr.mod hm (fun e => by have := hS _ e; omega) (fun e => by have := hS _ e; omega), l1, l2⟩
theorem SoB.mod {lo : Nat} {w w' : World} {so : Option Nat} {x : Option (Nat × (Nat → Bool))} (h : SoB lo w so x) {S : Nat → Prop} (hm : Mod S w w') (hS : ∀ i, S i → i < lo) : SoB lo w' so x := by
  rcases h with h | ⟨s, sg, n, f, e1, e2, hr, l1, l2⟩
  · exact .inl h
  · exact .inr ⟨s, sg, n, f, e1, e2, hr.mod hm (fun e => by have := hS _ e; omega) (fun e => by have := hS _ e; omega), l1, l2⟩
end Go.Proofs.YtjmfhcliggjdgaaGreatDoor

/- The laws on conn: the reference's swarm, what a step of it leaves; both swarms; no condition. -/
namespace Go.Proofs.YtjmfhcliggjdgaaGreatDoor
open Go Go.RowKit

theorem RD.ge {w : World} {b base n : Nat} {most : Int} {ks : List (Int × Rp)} (h : RD w b base n most ks) {i : Nat} (hi : RDb w b ks i) : b ≤ i := by
  obtain ⟨h1, ⟨a, cap, h2, h3, h4⟩, h5, h6⟩ := h
  rcases hi with rfl | ⟨X, m, c, hx, rfl⟩ | ⟨q, hq, rfl⟩
  · exact Nat.le_refl _
  · have hc : w.cell? ⟨b, 2, none⟩ = some (.slice a ks.length cap) := h2.cell 2
    rw [hc] at hx
    simp only [Option.some.injEq, Value.slice.injEq] at hx
    obtain ⟨rfl, _, _⟩ := hx
    have := (h3.blk X _ _ rfl).1
    omega
  · exact Nat.le_of_lt (Nat.lt_of_lt_of_le h1 ((h5 q hq).lt _ rfl).1)
/-- The blocks of the reference's swarm. -/
def RWb (w : World) (r b t : Nat) (ks : List (Int × Rp)) (i : Nat) : Prop := i = r ∨ RDb w b ks i ∨ Fl.RTb w t i
/-- The reference's swarm. -/
structure RW (w : World) (r b base t tb n : Nat) (pm mo ea pa : Int) (ks : List (Int × Rp)) (T : LT) : Prop where
  blk : Blk w r #[.pointer (some ⟨b, 0, none⟩), .pointer (some ⟨t, 0, none⟩)] 53
  rd : RD w b base n pm ks
  rt : Fl.RT w t tb mo ea pa T
  s1 : ¬ RDb w b ks r ∧ ¬ Fl.RTb w t r
  s2 : ∀ i, RDb w b ks i → ¬ Fl.RTb w t i
  hb : base ≤ w.heap.size ∧ tb ≤ w.heap.size
theorem RW.lt {w : World} {r b base t tb n : Nat} {pm mo ea pa : Int} {ks : List (Int × Rp)} {T : LT} (h : RW w r b base t tb n pm mo ea pa ks T) {i : Nat} (hi : RWb w r b t ks i) : i < w.heap.size := by
  rcases hi with rfl | hi | hi
  · exact h.blk.lt
  · exact h.rd.low hi
  · exact (h.rt.low hi).1
theorem RW.modB {S : Nat → Prop} {w w' : World} {r b base t tb n : Nat} {pm mo ea pa : Int} {ks : List (Int × Rp)} {T : LT} (h : RW w r b base t tb n pm mo ea pa ks T) (hm : Mod S w w') (hS : ∀ i, RWb w r b t ks i → ¬ S i) :
    RW w' r b base t tb n pm mo ea pa ks T ∧ ∀ i, RWb w' r b t ks i → RWb w r b t ks i := by
  have h1 := h.rd.modB hm fun i hi => hS i (.inr (.inl hi))
  have h2 := h.rt.modB hm fun i hi => hS i (.inr (.inr hi))
  have hz := hm.size
  have hb := h.hb
  refine ⟨⟨h.blk.mod hm (hS _ (.inl rfl)), h1.1, h2.1, ⟨fun e => h.s1.1 (h1.2 _ e), fun e => h.s1.2 (h2.2 _ e)⟩, fun i hi hj => h.s2 i (h1.2 i hi) (h2.2 i hj), by omega, by omega⟩, fun i hi => ?_⟩
  rcases hi with e | e | e
  · exact .inl e
  · exact .inr (.inl (h1.2 i e))
  · exact .inr (.inr (h2.2 i e))
theorem RW.new {w w' : World} {r b base t tb n : Nat} {pm mo ea pa : Int} {ks : List (Int × Rp)} {T : LT} (h : RW w r b base t tb n pm mo ea pa ks T) (hm : Mod (fun _ => False) w w') : RW w' r b base t tb n pm mo ea pa ks T := (h.modB hm fun _ _ h => h).1
/-- What a step of the reference leaves. -/
def StW (r b base t tb n : Nat) (pm mo ea pa : Int) (ks : List (Int × Rp)) (L1 : LB) (T1 : LT) (w w' : World) : Prop :=
  ∃ k2, RW w' r b base t tb n pm mo ea pa k2 T1 ∧ mapV Rp.f k2 = L1 ∧ Mod (RWb w r b t ks) w w' ∧ ∀ i, RWb w' r b t k2 i → RWb w r b t ks i ∨ w.heap.size ≤ i
theorem StW.same {w w' : World} {r b base t tb n : Nat} {pm mo ea pa : Int} {ks : List (Int × Rp)} {L : LB} {T : LT} (h : RW w r b base t tb n pm mo ea pa ks T) (he : mapV Rp.f ks = L) (hm : Mod (fun _ => False) w w') : StW r b base t tb n pm mo ea pa ks L T w w' :=
  have hr := h.modB hm fun _ _ h => h
  ⟨ks, hr.1, he, hm.mono fun _ _ e => e.elim, fun i hi => .inl (hr.2 i hi)⟩
/-- The table alone is written. -/
theorem StW.tmod {w w' : World} {r b base t tb n : Nat} {pm mo ea pa : Int} {ks : List (Int × Rp)} {L : LB} {T T1 : LT} (h : RW w r b base t tb n pm mo ea pa ks T) (he : mapV Rp.f ks = L) (hs : Fl.StepT t tb mo ea pa T1 w w') : StW r b base t tb n pm mo ea pa ks L T1 w w' := by
  obtain ⟨ht, hm, hn⟩ := hs
  have h1 := h.rd.modB hm h.s2
  have hz := hm.size
  have hb := h.hb
  refine ⟨ks, ⟨h.blk.mod hm h.s1.2, h1.1, ht, ⟨fun e => h.s1.1 (h1.2 _ e), fun e => (hn _ e).elim h.s1.2 fun e => by have := h.blk.lt; omega⟩, fun i hi hj => (hn i hj).elim (h.s2 i (h1.2 i hi)) fun e => by have := h.rd.low (h1.2 i hi); omega, by omega, by omega⟩, he, hm.mono fun _ _ e => .inr (.inr e), fun i hi => ?_⟩
  rcases hi with e | e | e
  · exact .inl (.inl e)
  · exact .inl (.inr (.inl (h1.2 i e)))
  · exact (hn i e).imp (fun e => .inr (.inr e)) id
/-- The board alone is written. -/
theorem StW.board {w w' : World} {r b base t tb n : Nat} {pm mo ea pa : Int} {ks : List (Int × Rp)} {L1 : LB} {T : LT} (h : RW w r b base t tb n pm mo ea pa ks T) (hs : RefP n b base pm ks L1 w w') : StW r b base t tb n pm mo ea pa ks L1 T w w' := by
  obtain ⟨k2, ⟨hr, hm, hn⟩, he⟩ := hs
  have h1 := h.rt.modB hm fun i hi hj => h.s2 i hj hi
  have hz := hm.size
  have hb := h.hb
  refine ⟨k2, ⟨h.blk.mod hm h.s1.1, hr, h1.1, ⟨fun e => (hn _ e).elim h.s1.1 fun e => by have := h.blk.lt; omega, fun e => h.s1.2 (h1.2 _ e)⟩, fun i hi hj => (hn i hi).elim (fun e => h.s2 i e (h1.2 i hj)) fun e => by have := (h.rt.low (h1.2 i hj)).1; omega, by omega, by omega⟩, he, hm.mono fun _ _ e => .inr (.inl e), fun i hi => ?_⟩
  rcases hi with e | e | e
  · exact .inl (.inl e)
  · exact (hn i e).imp (fun e => .inr (.inl e)) id
  · exact .inl (.inr (.inr (h1.2 i e)))
theorem StW.trans {w w1 w' : World} {r b base t tb n : Nat} {pm mo ea pa : Int} {ks k1 : List (Int × Rp)} {L2 : LB} {T2 : LT} (hm : Mod (RWb w r b t ks) w w1) (hn : ∀ i, RWb w1 r b t k1 i → RWb w r b t ks i ∨ w.heap.size ≤ i) (h2 : StW r b base t tb n pm mo ea pa k1 L2 T2 w1 w') : StW r b base t tb n pm mo ea pa ks L2 T2 w w' := by
  obtain ⟨k2, h3, e, m2, n2⟩ := h2
  refine ⟨k2, h3, e, hm.trans2 m2 hn, fun i hi => ?_⟩
  rcases n2 i hi with h | h
  · exact hn i h
  · exact .inr (Nat.le_trans hm.size h)

/-- Both swarms, that know the same. -/
structure TwoC (w : World) (B0 s b M g t tM : Nat) (ks : List (Int × Ow)) (r b' base t' tb : Nat) (ks' : List (Int × Rp)) (n : Nat) (pm mo ea pa : Int) (L : LB) (T : LT) : Prop where
  sw : SW w s b M g t tM n pm mo ea pa ks T
  rw' : RW w r b' base t' tb n pm mo ea pa ks' T
  e1 : mapV Ow.f ks = L
  e2 : mapV Rp.f ks' = L
  ap : ∀ i, SWb s b M g t tM ks i → ¬ RWb w r b' t' ks' i
  low : ∀ i, SWb s b M g t tM ks i ∨ RWb w r b' t' ks' i → B0 ≤ i
  ok : OkB pm L
  okt : Fl.Okk mo ea T
  kn : ∀ q ∈ T, q.1 < (n : Int)
  sm : (pm ≤ 64 ∧ 1 ≤ n ∧ n ≤ 1024) ∧ 1 ≤ ea ∧ ea ≤ mo ∧ mo ≤ 256 ∧ 1 ≤ pa ∧ pa ≤ 1048576
  tab : TabW w ∧ gTab < B0
def TwoS (w : World) (B0 s r n : Nat) (pm mo ea pa : Int) (L : LB) (T : LT) : Prop := ∃ b M g t tM ks b' base t' tb ks', TwoC w B0 s b M g t tM ks r b' base t' tb ks' n pm mo ea pa L T
theorem TwoC.len {w : World} {B0 s b M g t tM : Nat} {ks : List (Int × Ow)} {r b' base t' tb : Nat} {ks' : List (Int × Rp)} {n : Nat} {pm mo ea pa : Int} {L : LB} {T : LT} (h : TwoC w B0 s b M g t tM ks r b' base t' tb ks' n pm mo ea pa L T) :
    ks.length ≤ 64 ∧ ks'.length ≤ 64 ∧ ks.length = L.length ∧ ks'.length = L.length ∧ T.length ≤ 256 := by
  have h1 := congrArg List.length h.e1
  have h2 := congrArg List.length h.e2
  rw [mapV_len] at h1 h2
  have := h.ok.len
  have := h.okt.len
  have := h.sm
  omega
theorem TwoC.rise {w : World} {B0 s b M g t tM : Nat} {ks : List (Int × Ow)} {r b' base t' tb : Nat} {ks' : List (Int × Rp)} {n : Nat} {pm mo ea pa : Int} {L : LB} {T : LT} (h : TwoC w B0 s b M g t tM ks r b' base t' tb ks' n pm mo ea pa L T) : Rising ks ∧ Rising ks' :=
  ⟨(rising_mapV Ow.f).1 (by rw [h.e1]; exact h.ok.rise), (rising_mapV Rp.f).1 (by rw [h.e2]; exact h.ok.rise)⟩
theorem TwoC.new {w w' : World} {B0 s b M g t tM : Nat} {ks : List (Int × Ow)} {r b' base t' tb : Nat} {ks' : List (Int × Rp)} {n : Nat} {pm mo ea pa : Int} {L : LB} {T : LT} (h : TwoC w B0 s b M g t tM ks r b' base t' tb ks' n pm mo ea pa L T) (hm : Mod (fun _ => False) w w') : TwoC w' B0 s b M g t tM ks r b' base t' tb ks' n pm mo ea pa L T := by
  have hr := h.rw'.modB hm (fun _ _ h => h)
  exact ⟨h.sw.new hm, hr.1, h.e1, h.e2, fun i hi hj => h.ap i hi (hr.2 i hj), fun i hi => h.low i (hi.imp_right (hr.2 i)), h.ok, h.okt, h.kn, h.sm, h.tab.1.mod hm (fun h => h), h.tab.2⟩
theorem TwoC.mid {w w1 : World} {B0 s b M g t tM : Nat} {ks : List (Int × Ow)} {r b' base t' tb : Nat} {ks' : List (Int × Rp)} {n : Nat} {pm mo ea pa : Int} {L : LB} {T : LT} (h : TwoC w B0 s b M g t tM ks r b' base t' tb ks' n pm mo ea pa L T) (hm : Mod (SWb s b M g t tM ks) w w1) :
    RW w1 r b' base t' tb n pm mo ea pa ks' T ∧ ∀ i, RWb w1 r b' t' ks' i → RWb w r b' t' ks' i := h.rw'.modB hm fun i hi hb => h.ap i hb hi
theorem TwoC.both {w w1 w2 : World} {B0 s b M g t tM : Nat} {ks : List (Int × Ow)} {r b' base t' tb : Nat} {ks' : List (Int × Rp)} {n : Nat} {pm mo ea pa : Int} {L L1 : LB} {T T1 : LT} (h : TwoC w B0 s b M g t tM ks r b' base t' tb ks' n pm mo ea pa L T)
    (hc : StS s b M g t tM n pm mo ea pa ks L1 T1 w w1) (hr : StW r b' base t' tb n pm mo ea pa ks' L1 T1 w1 w2) (hok : OkB pm L1) (hot : Fl.Okk mo ea T1) (hkn : ∀ q ∈ T1, q.1 < (n : Int)) : TwoS w2 B0 s r n pm mo ea pa L1 T1 ∧ Mod (fun i => B0 ≤ i) w w2 := by
  obtain ⟨k1, hsw, f1, hm, hnew⟩ := hc
  obtain ⟨k2, hr1, f2, hr2, hr3⟩ := hr
  obtain ⟨r1, r2⟩ := h.mid hm
  have hz1 := hm.size
  have hz2 := hr2.size
  have ap1 : ∀ i, SWb s b M g t tM k1 i → ¬ RWb w1 r b' t' ks' i := fun i hi hj => by
    rcases hnew i hi with e | e
    · exact h.ap i e (r2 i hj)
    · have := h.rw'.lt (r2 i hj); omega
  have hlow : B0 ≤ w.heap.size := Nat.le_of_lt (Nat.lt_of_le_of_lt (h.low s (.inl (.inl rfl))) h.sw.blk.lt)
  refine ⟨⟨b, M, g, t, tM, k1, b', base, t', tb, k2, hsw.mod hr2 ap1, hr1, f1, f2, fun i hi hj => ?_, fun i hi => ?_, hok, hot, hkn, h.sm, (h.tab.1.mod hm fun e => ?_).mod hr2 fun e => ?_, h.tab.2⟩, (hm.mono fun i _ e => h.low i (.inl e)).trans (hr2.mono fun i _ e => h.low i (.inr (r2 i e)))⟩
  · rcases hr3 i hj with e | e
    · exact ap1 i hi e
    · have := hsw.lt hi; omega
  · rcases hi with hi | hi
    · rcases hnew i hi with e | e
      · exact h.low i (.inl e)
      · omega
    · rcases hr3 i hi with e | e
      · exact h.low i (.inr (r2 i e))
      · omega
  · have := h.low _ (.inl e); have := h.tab.2; omega
  · have := h.low _ (.inr (r2 _ e)); have := h.tab.2; omega
end Go.Proofs.YtjmfhcliggjdgaaGreatDoor
