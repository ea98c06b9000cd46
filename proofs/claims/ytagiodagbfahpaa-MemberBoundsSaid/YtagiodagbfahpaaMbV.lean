/- maps.Values over a map of records (keys: the ids in them), slices.Collect behind it: each record once, in some order; conditions: the map is whole. -/
import Derived.RangeFuncNested
import Derived.RangeFuncBound
import Derived.RangeFuncCalls
import Derived.RangeFuncLeaves
import Derived.RangeFuncBox
import Derived.Shelf.Abstract
import Derived.Shelf.RegionOpen
import Derived.WalkKit
import Derived.OwnWalkIn
import Derived.TacticsInMore
import Derived.LoopNIn
import Derived.LoopIn
import Derived.Maps.AppendAt
import Derived.Maps.OwnIn
import Derived.Sort.MapsRangeIn
import Derived.Lib.SlKeysI
import Derived.Test.YtagiodagbfahpaaMb0
namespace Go.Proofs.Ytagiodagbfahpaa
open Go Go.RowKit Go.Shelf Go.Maps Go.Sort
attribute [local go_sem] Oper.semAt_some

/-- The values of a map, as they come: each once, in some order. -/
abbrev recs (p : Int × Rc) : Array Value := #[.agg #[.int .i64 p.1, .int .i64 p.2.s, .int .i64 p.2.u, .int .i64 p.2.b]]
theorem perm_of_keys {α : Type} {ks ps : List (Int × α)} (hr : Rising ks) (hm : ∀ p ∈ ps, p ∈ ks) (hp : (keysL ps).Perm (keysL ks)) : ps.Perm ks := by
  have hnk : (keysL ks).Nodup := by
    unfold keysL
    exact (List.pairwise_map.2 (hr.imp fun h e => by omega))
  have hnp : (keysL ps).Nodup := hp.nodup_iff.2 hnk
  have h1 : ps.Nodup := (List.pairwise_map.1 hnp).imp fun h e => h (by rw [e])
  have h2 : ks.Nodup := (List.pairwise_map.1 hnk).imp fun h e => h (by rw [e])
  refine (List.perm_ext_iff_of_nodup h1 h2).2 fun p => ⟨hm p, fun h => ?_⟩
  have : p.1 ∈ keysL ps := hp.mem_iff.2 (List.mem_map.2 ⟨p, h, rfl⟩)
  obtain ⟨q, hq, e⟩ := List.mem_map.1 this
  rw [← mem_eq hr (hm q hq) h e]
  exact hq
theorem keys_toD_mp (ks : List (Int × Rc)) : intKeys (toD (mp ks)) = keysL ks := by rw [keys_toD, keys_mp]

set_option maxRecDepth 100000 in
set_option maxHeartbeats 2000000 in
theorem vals1 (F : Fence) (n : Nat) (hf : F.fn 65) (hro : F.round = none) (hn : 1 ≤ n) (l Bm b : Nat) (ks : List (Int × Rc)) (J Jx : List (Int × Rc) → World → Prop)
    (hY : ∀ pre x W, J pre W → pre.length < ks.length → YieldAt F (n - 1) Try.prog l (recs x) W fun e W' =>
      (e = .returned (.bool true) ∧ J (pre ++ [x]) W' ∧ KeepsWalks W W') ∨ (e = .returned (.bool false) ∧ Jx (pre ++ [x]) W'))
    (W : World) (hJ : AbidesFrom W.heap.size J) (hm : W.cell? ⟨Bm, 0, none⟩ = some (.map (some b))) (hM : IMap Try.prog 3 W b (mp ks)) (h0 : J [] W) :
    CallsIn F n Try.prog 65 #[.func (.yield l) #[] #[], .pointer (some ⟨Bm, 0, none⟩)] W fun e W' => (∃ v, e = .returned v) ∧
      ((∃ ps : List (Int × Rc), ps.Perm ks ∧ J ps W') ∨ (∃ pre, True ∧ Jx pre W')) := by
  obtain ⟨nn, D0, hD, hown⟩ : ∃ nn D0, D0 = toD (mp ks) ∧ W.ownsMap Try.prog 3 RV b nn D0 := ⟨_, _, rfl, hM.owns⟩
  have hsz : Maps.size D0 = ks.length := by rw [hD, size_toD, mp_len]
  have HD := Lib.hid hD
  clear hD
  have hrs : Rising ks := rising_mp.1 hM.rising
  have K : Keyed Try.prog 3 := int_keyed Try.underlying3
  clear hM
  refine callsIn_of_wp Try.func65 rfl hf ?_ hro
  simp only [Try.ntmps65, List.size_toArray, List.length_cons, List.length_nil, Nat.reduceAdd, Nat.reduceSub, Array.replicate_succ, Array.replicate_zero, List.push_toArray, List.append_toArray, List.nil_append, List.cons_append]
  gi_wp2_with (first
    | (gi_at_range; refine wpListIn_range_own _ rfl _ 64 rfl 3 29 K Try.underlying64 _ b nn _ rfl hown ?_; intro w0 hrg0 hg0 hs0)
    | gi_in)
  go_frame
  gi_loopw [4] (fun _ wr => ∃ (left : Lit → Bool) (cnt : Nat) (ps : List (Int × Rc)), wr.ranges Try.prog 3 RV b W.heap.size nn D0 left cnt ∧ ps.length + cnt ≤ ks.length ∧ CollectedI D0 left (keysL ps) ∧ (∀ p ∈ ps, p ∈ ks) ∧ J ps wr)
    (fun _ wr => wr.rangeLeft b W.heap.size)
  case atStart =>
    exact ⟨_, _, [], hrg0, by simp [hsz], CollectedI.start D0, by simp, hJ [] W w0 none h0 hg0 (fun r e => by cases e)⟩
  case round =>
    obtain ⟨left, cnt, ps, hrg, hcs, hC, hV, hJs⟩ := hrel
    gi_wp2_with (first
      | (gi_at_next; refine wpListIn_next_ranges _ rfl _ rfl 3 K RV encZ id (fun key kl hk => by obtain ⟨x, hx, _⟩ := Maps.keyOf_i64 Try.underlying3 hk; exact ⟨x, hx⟩) (fun v y _ => ⟨v, rfl⟩) b W.heap.size nn _ _ _ rfl hrg ?_ ?_)
      | gi_in)
    · intro hc0 hl0
      gi_wp2
      go_end0
      refine ⟨⟨_, rfl⟩, .inl ⟨ps, perm_of_keys hrs hV ?_, hJs⟩⟩
      have := hC.perm hown K Try.underlying3 hl0
      rw [HD.out, keys_toD_mp] at this
      exact this
    · intro x c kl yd yp w2 cnt2 hkey hlk hv hat hrg2 hlt hg2 hs2 hen
      obtain ⟨x', ex, rfl, _⟩ := Maps.keyOf_i64 Try.underlying3 hkey
      obtain rfl : x = x' := encZ_inj ex
      obtain ⟨rfl, rfl⟩ : DataW.held c = yd ∧ [] = yp := by simpa [RV] using hv
      have hC2 := hC.step hlk hat
      obtain ⟨r, hr, rfl⟩ : ∃ r, lkL ks x = some r ∧ c = rcv x r := by
        have h1 := has_true_of_atKey hat
        rw [HD.out, has_toD] at h1
        obtain ⟨d, hd⟩ := Option.isSome_iff_exists.1 h1
        have h2 := hat (.held c)
        rw [HD.out, atKey_toD, hd] at h2
        simp at h2
        rw [lk_mp] at hd
        obtain ⟨r, hr, hrd⟩ := Option.map_eq_some_iff.1 hd
        exact ⟨r, hr, by rw [← h2, hrd]⟩
      have hJ2 : J ps w2 := hJ ps wr w2 (some W.heap.size) hJs hg2 (fun r e => by cases e; exact ⟨Nat.le_refl _, hrg.iter_walk⟩)
      have hJ3 := hJ ps w2 (w2.alloc (.cells #[.int .i64 x, .int .i64 r.s, .int .i64 r.u, .int .i64 r.b] 29)) none hJ2 (World.grownBy_alloc _ _ none) (fun r e => by cases e)
      have hrg3 := hrg2.of_walks (KeepsWalks.alloc w2 (.cells #[.int .i64 x, .int .i64 r.s, .int .i64 r.u, .int .i64 r.b] 29))
      obtain ⟨fn, tmps, assign, body, hy, hR⟩ := hY ps (x, r) _ hJ3 (by omega)
      have hK2 : keysL (ps ++ [(x, r)]) = keysL ps ++ [x] := by simp [keysL]
      have hV2 : ∀ p ∈ ps ++ [(x, r)], p ∈ ks := fun p hp => (List.mem_append.1 hp).elim (hV p) (fun e => by simp at e; subst e; exact lk_some_mem hr)
      rw [← hK2] at hC2
      unfold rcv at *
      dsimp only [recs, id] at *
      clear hs2 hat hv hr
      gi_wp2
      refine hR.mono ?_
      rintro e W3 (⟨rfl, hJ3, hk3⟩ | ⟨rfl, hJx3⟩)
      · gi_wp2
        have hrg4 := hrg3.of_walks hk3
        go_roundw
        case rel => exact ⟨_, cnt2, ps ++ [(x, r)], hrg4, by simp; omega, hC2, hV2, hJ3⟩
        case measure => rw [hrg4.left_eq, hrg.left_eq]; exact hlt
      · gi_wp2
        refine bodyPost_ret (results_none rfl _ _ _) rfl ?_
        exact ⟨⟨_, rfl⟩, .inr ⟨_, trivial, hJx3⟩⟩

theorem vals_stops (F : Fence) (n : Nat) (hf : F.fn 65) (hro : F.round = none) (hn : 1 ≤ n) (Bm b : Nat) (ks : List (Int × Rc)) (w : World) (hBm : Bm < w.heap.size)
    (hm : w.cell? ⟨Bm, 0, none⟩ = some (.map (some b))) (hM : IMap Try.prog 3 w b (mp ks)) :
    SeqStopsK F n Try.prog 65 #[.pointer (some ⟨Bm, 0, none⟩)] recs KeepsWalks (fun ps => ps.Perm ks) (fun _ => True) ks.length w := fun l J Jx W hW hJ _ hY h0 =>
  vals1 F n hf hro hn l Bm b ks J Jx hY W hJ ((hW.cell (p := ⟨Bm, 0, none⟩) hBm).trans hm) (hM.below hW hM.lt) h0

/-- Records, cell by cell. -/
def recL (ps : List (Int × Rc)) : List Value := ps.flatMap fun p => [.int .i64 p.1, .int .i64 p.2.s, .int .i64 p.2.u, .int .i64 p.2.b]
theorem recL_snoc (ps : List (Int × Rc)) (x : Int × Rc) : recL (ps ++ [x]) = recL ps ++ [.int .i64 x.1, .int .i64 x.2.s, .int .i64 x.2.u, .int .i64 x.2.b] := by simp [recL]
theorem recL_len (ps : List (Int × Rc)) : (recL ps).length = ps.length * 4 := by
  induction ps with
  | nil => rfl
  | cons p t ih => simp [recL] at ih ⊢; omega
theorem blk_own {β : Type} (B : Nat) (t : TypeId) (f : β → Array Value) : Own (fun s W => Blk W B (f s) t) := fun s X Y row hs hg hrow =>
  (hg.block B hs.lt (fun e' => by obtain ⟨o, ho, hc⟩ := hrow B e'.symm; rw [show X.heap[B]? = _ from hs] at ho; cases ho; cases hc)).trans hs
theorem infoKn : (Try.prog.info? 29).map (fun i => (i.zero, i.size, i.bytes)) = some (some (.agg #[.int .i64 0, .int .i64 0, .int .i64 0, .int .i64 0]), 4, 32) := by kernel_rfl

set_option maxRecDepth 100000 in
set_option maxHeartbeats 4000000 in
theorem appSeq (F : Fence) (n : Nat) (hf : F.fn 64) (hro : F.round = none) (hn : 3 ≤ n) (g : Nat) (lb : Array Value) (hFg : F.fn g) (eg : ∀ args w, (callFunc g args).run Try.prog w = .ok (.enter g args) w)
    (S Sp : List (Int × Rc) → Prop) (N : Nat) (hN : N ≤ 1000) (w : World) (hseq : SeqStopsK F (n - 1) Try.prog g lb recs KeepsWalks S Sp N w) :
    CallsIn F n Try.prog 64 #[.slice none 0 0, .func (.func g) #[] lb] w fun e w' => ∃ v ss, e = .returned v ∧ S ss ∧ w'.ownsRow w.heap.size 29 4 v ss.length (recL ss) ∧ Below w.heap.size w w' := by
  have h1 : 1 ≤ n := by omega
  obtain ⟨i0, hi, hz0, hz1, hz2⟩ := info_parts infoKn
  refine callsIn_of_wp_marks Try.func64 rfl hf ?_ hro
  simp only [Try.ntmps64, List.size_toArray, List.length_cons, List.length_nil, Nat.reduceAdd, Nat.reduceSub, Array.replicate_succ, Array.replicate_zero, List.push_toArray, List.append_toArray, List.nil_append, List.cons_append]
  gi_wp2
  have bO := Boxed.new w 22 (.slice none 0 0)
  have hB0 : Below w.heap.size w (w.alloc (.cells #[.slice none 0 0] 22)) := (Below.refl _ w).alloc (Nat.le_refl _) _
  refine wpIn_rangeFunc_ownH hro h1 (gf := g) (lb := lb) rfl hFg eg hseq walksK_t (walksK_b (w := w.alloc (.cells #[.slice none 0 0] 22))) hB0 (fun _ => rfl)
    (fun pre W => (∃ v, Boxed W w.heap.size 22 v ∧ W.ownsRow w.heap.size 29 4 v pre.length (recL pre) ∧ True) ∧ Below w.heap.size w W)
    (fun _ _ _ => False)
    (OwnFrom.and (Own.from (holdsRow_own w.heap.size w.heap.size 22 29 4 (fun pre : List (Int × Rc) => pre.length) recL (fun _ _ => True)) _) (ownFrom_below (Nat.le_refl _) (by simp)))
    (fun _ _ _ _ _ hs _ _ => hs)
    ⟨⟨_, bO, World.ownsRow_nil _ _ _ _, trivial⟩, hB0⟩
    (fun x a' W => ∃ Bx, w.heap.size < Bx ∧ Blk W Bx #[.int .i64 x.1, .int .i64 x.2.s, .int .i64 x.2.u, .int .i64 x.2.b] 29 ∧ a' = { tmps := #[.slice none 0 0, .func (.func g) #[] lb, .pointer (some ⟨w.heap.size, 0, none⟩), undef, .slice none 0 0, .pointer (some ⟨Bx, 0, none⟩), .func (.func g) #[] lb, .agg #[.int .i64 x.1, .int .i64 x.2.s, .int .i64 x.2.u, .int .i64 x.2.b], undef, undef, undef, undef, undef], defers := [] })
    (fun x a' _ X Y row hs hg hr => by obtain ⟨Bx, h1, h2, h3⟩ := hs; exact ⟨Bx, h1, blk_own Bx _ (fun (_ : Unit) => _) () X Y row h2 hg (fun r e => (hr r e).2), h3⟩)
    ?assign ?body ?done ?stop
  case assign =>
    rintro l pre x W K ⟨⟨v, bS1, o1, _⟩, hB1⟩ hK
    gi_wp2
    exact hK _ _ ((KeepsOthers.alloc _ _).from _) (KeepsWalks.alloc _ _) ⟨⟨v, bS1.alloc _, o1.alloc _, trivial⟩, hB1.alloc hB1.size _⟩ ⟨W.heap.size, bS1.lt, Blk.new W _ _, rfl⟩
  case body =>
    rintro l pre x a' W hl ⟨r, hr⟩ ⟨⟨v, bS1, o1, _⟩, hB1⟩ ⟨Bx, hBx, bX, rfl⟩ hlt
    have c0 := bS1.cell
    have x0 := bX.cell 0; have x1 := bX.cell 1; have x2 := bX.cell 2; have x3 := bX.cell 3
    have HS := Lib.hid hB1.size
    gi_wp2_with (gi_at_builtin; refine wpListIn_append_own _ rfl _ _ 22 rfl w.heap.size 29 i0 (.agg #[.int .i64 0, .int .i64 0, .int .i64 0, .int .i64 0]) 4 32 Try.underlying22 hi hz0 hz1 hz2 rfl (by decide) _ _ _ rfl (o1.alloc _) ⟨W.heap.size, 0, none⟩ 1 1 [.int .i64 x.1, .int .i64 x.2.s, .int .i64 x.2.u, .int .i64 x.2.b] rfl rfl (fun j u hj => by rw [add_g]; exact ((Blk.new W _ _).cell j).trans (by simpa using hj)) (by simp [Value.oneCell']) (by unfold maxLen; omega) (by omega) (by have := HS.out; simp; omega) ?_; intro v' w1 hown' hgrow _; obtain ⟨g', cap', rfl⟩ := ownsRow_succ hown'; obtain ⟨hv1, hv2, hr2, hk2, hb2⟩ := bS1.appended (by decide) o1 HS.out (Nat.le_refl _) hown' hgrow; have hc1 := hv1.cell; have hf1 := hv1.frozen)
    exact ⟨hk2.from _, hk2.walks, ⟨_, hv2, by rw [recL_snoc]; simpa using hr2, trivial⟩, hB1.trans hb2⟩
  case done =>
    rintro D ys W hD hS ⟨⟨v, hv, hrow, _⟩, hB⟩ hK
    have hc := hv.cell
    gi_wp2
    refine ⟨by simp, .inl ⟨_, _, rfl, run_takeDeferred hK, ?_⟩⟩
    exact ⟨_, results_tmp rfl _ _ _, v, ys, rfl, hS, ownsRow_putObj hrow _ hK rfl, hB.trans (belowK_b (w := w) (Nat.le_refl _) W D _ _ (by simp at hD; omega) hK rfl rfl)⟩
  case stop =>
    rintro D c pre W _ _ h _
    exact h.elim

set_option maxRecDepth 100000 in
set_option maxHeartbeats 2000000 in
/-- slices.Collect(maps.Values(m)). -/
theorem collectVals (Bm b : Nat) (ks : List (Int × Rc)) (w : World) (hBm : Bm < w.heap.size) (hm : w.cell? ⟨Bm, 0, none⟩ = some (.map (some b))) (hM : IMap Try.prog 3 w b (mp ks)) (hlen : ks.length ≤ 1000) :
    Calls Try.prog 47 #[.func (.func 65) #[] #[.pointer (some ⟨Bm, 0, none⟩)]] w fun e w' => ∃ v ss, e = .returned v ∧ ss.Perm ks ∧ w'.ownsRow w.heap.size 29 4 v ss.length (recL ss) ∧ Below w.heap.size w w' := by
  have hA := callsIn_wide.1 (appSeq Fence.wide 5 trivial rfl (by omega) 65 #[.pointer (some ⟨Bm, 0, none⟩)] trivial (enters_of Try.func65 (by kernel_rfl) rfl) _ _ _ hlen w (vals_stops Fence.wide 4 trivial rfl (by omega) Bm b ks w hBm hm hM))
  clear hm hM
  go_enter Try.func47, Try.ntmps47
  go_wp2_with fail
  refine hA.mono ?_; rintro e w' ⟨v, ss, rfl, hS, hrow, hb⟩
  go_wp2_with fail
  go_ret
  exact ⟨v, ss, rfl, hS, hrow, hb⟩

set_option maxHeartbeats 1000000 in
theorem valsCall (mb : Option Nat) (w : World) :
    Calls Try.prog 48 #[.map mb] w fun e w' => e = .returned (.func (.func 65) #[] #[.pointer (some ⟨w.heap.size, 0, none⟩)]) ∧ w' = w.alloc (.cells #[.map mb] 64) := by
  go_enter Try.func48, Try.ntmps48
  go_wp2_with fail
  go_ret
  exact ⟨rfl, rfl⟩
end Go.Proofs.Ytagiodagbfahpaa
