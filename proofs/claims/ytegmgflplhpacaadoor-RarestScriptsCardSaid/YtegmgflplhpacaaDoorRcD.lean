/- The laws on rarest: what is asked of both boards; Same; how both begin; no condition but the table. -/
import Derived.Test.YtegmgflplhpacaaDoorRwP
namespace Go.Proofs.YtegmgflplhpacaaDoor
open Go Go.RowKit

set_option maxHeartbeats 1000000 in
theorem same10 (va vb : Value) (xs : List Int) (n : Nat) (w : World) (ha : Sl w va 1 n (intL xs)) (hb : Sl w vb 1 n (intL xs)) (hn : n ≤ 9007199254740992) :
    Calls Tryd.prog 20 #[va, vb] w fun e w' => e = .returned (.bool true) ∧ Mod (fun _ => False) w w' := by
  have hl := ha.len
  rw [List.length_map, Nat.mul_one] at hl
  have form : ∀ v, Sl w v 1 n (intL xs) → ∃ a c, v = .slice a n c ∧ ∀ i, i < n → ∃ x, a = some x ∧ w.cell? (x.add i) = some (.int .i64 (xs.getD i 0)) := by
    intro v h
    rcases h with ⟨rfl, rfl, _⟩ | ⟨x, c, rfl, _, h⟩
    · exact ⟨none, 0, rfl, fun i hi => by omega⟩
    · refine ⟨some x, c, rfl, fun i hi => ⟨x, rfl, h i _ ?_⟩⟩
      rw [List.getElem?_map, List.getD_eq_getElem?_getD, List.getElem?_eq_getElem (by omega)]; rfl
  obtain ⟨aa, ca, rfl, fa⟩ := form va ha
  obtain ⟨ab, cb, rfl, fb⟩ := form vb hb
  have FA := Lib.hid fa
  have FB := Lib.hid fb
  clear ha hb hl form fa fb
  go_enter Tryd.func20, Tryd.ntmps20
  go_wp2_with fail
  go_loopw [5] (fun i wr => ∃ k : Nat, i = .int .i64 k ∧ k ≤ n ∧ Draws w wr) (fun i _ => n - (intOf i).toNat)
  case atStart => exact ⟨0, rfl, by omega, 0, rfl⟩
  case round =>
    obtain ⟨k, rfl, hk, nd, rfl⟩ := hrel
    by_cases hlt : k < n
    · obtain ⟨xa, rfl, ga⟩ := FA.out k hlt
      obtain ⟨xb, rfl, gb⟩ := FB.out k hlt
      generalize xs.getD k 0 = z at ga gb
      have hlt' : (k : Int) < n := by omega
      go_wp2_with fail
      refine wp_region_stages0 [0, 0, 0, 1, 0, 0, 0, 1, 0] (by kernel_rfl) (by kernel_rfl) ?_
      repeat (first | (refine stage_any (fun K hK => ?_); go_simp; refine hK _ _ ?_; clear hK K) | (refine stage_pin (fun K hK => ?_); go_simp; refine hK _ _ ?_; clear hK K))
      refine stage_nil ?_
      rintro _ ⟨n2, rfl⟩
      go_wp2_with fail
      go_roundw
      case rel => exact ⟨k + 1, by go_num, by omega, _, rfl⟩
      case measure => simp [intOf]; omega
    · go_wp2_with fail
      go_ret
      exact ⟨rfl, (Mod.refl _ w).drewN nd⟩

theorem TwoP.new {w w' : World} {B0 b b' n : Nat} {most : Int} {L : LB} (h : TwoP w B0 b b' n most L) (hm : Mod (fun _ => False) w w') : TwoP w' B0 b b' n most L := by
  obtain ⟨M, g, ks, base, ks', h⟩ := h
  exact ⟨M, g, ks, base, ks', h.new hm⟩
theorem TwoP.ok {w : World} {B0 b b' n : Nat} {most : Int} {L : LB} (h : TwoP w B0 b b' n most L) : OkB most L ∧ most ≤ 64 ∧ 1 ≤ n ∧ n ≤ 1024 ∧ L.length ≤ 64 := by
  obtain ⟨M, g, ks, base, ks', h⟩ := h
  have := h.len
  have := h.sm
  exact ⟨h.ok, by omega, by omega, by omega, by omega⟩
theorem TwoP.out {w : World} {B0 b b' n : Nat} {most : Int} {L : LB} (h : TwoP w B0 b b' n most L) : ∀ q ∈ L, ∀ j, n ≤ j → q.2 j = false := by
  obtain ⟨M, g, ks, base, ks', h⟩ := h
  intro q hq j hj
  rw [← h.e1] at hq
  obtain ⟨o, ho, rfl⟩ := List.mem_map.1 hq
  exact (h.bd.sets o ho).out j hj
theorem twoPeers {w : World} {B0 b b' n : Nat} {most : Int} {L : LB} (h : TwoP w B0 b b' n most L) : Calls Tryd.prog 21 #[.pointer (some ⟨b, 0, none⟩)] w (IntsP (keysL L) w) := by
  obtain ⟨M, g, ks, base, ks', h⟩ := h
  have := rarePeers b M g n most (cO ks) ks w h.bd (by have := h.len; omega)
  rw [← h.e1, keys_mapV]
  exact this
theorem twoRPeers {w : World} {B0 b b' n : Nat} {most : Int} {L : LB} (h : TwoP w B0 b b' n most L) : Calls Tryd.prog 22 #[.pointer (some ⟨b', 0, none⟩)] w (IntsP (keysL L) w) := by
  obtain ⟨M, g, ks, base, ks', h⟩ := h
  have := refRPeers b' base n most ks' w h.rd (by have := h.len; omega)
  rw [← h.e2, keys_mapV]
  exact this
theorem twoOf {w : World} {B0 b b' n : Nat} {most : Int} {L : LB} (h : TwoP w B0 b b' n most L) {p : Int} (hI : I64 p) {f : Nat → Bool} (hl : lkL L p = some f) :
    Calls Tryd.prog 16 #[.pointer (some ⟨b, 0, none⟩), .int .i64 p] w fun e w' => ∃ x y : Nat, e = .returned (.tuple #[.pointer (some ⟨x, 0, none⟩), .int .i64 0]) ∧ BSet w' x y n f ∧ Mod (fun _ => False) w w' ∧ w.heap.size ≤ x ∧ w.heap.size ≤ y := by
  obtain ⟨M, g, ks, base, ks', h⟩ := h
  rw [lk_abs h.e1] at hl
  obtain ⟨o, ho, rfl⟩ := Option.map_eq_some_iff.1 hl
  exact rareOf p o b M g n most (cO ks) ks w h.bd hI ho
theorem twoOfNo {w : World} {B0 b b' n : Nat} {most : Int} {L : LB} (h : TwoP w B0 b b' n most L) {p : Int} (hI : I64 p) (hl : lkL L p = none) :
    Calls Tryd.prog 16 #[.pointer (some ⟨b, 0, none⟩), .int .i64 p] w fun e w' => e = .returned (.tuple #[.pointer none, .int .i64 4]) ∧ w = w' := by
  obtain ⟨M, g, ks, base, ks', h⟩ := h
  rw [lk_abs h.e1] at hl
  exact rareOfNo p b M g n most (cO ks) ks w h.bd hI (Option.map_eq_none_iff.1 hl)
theorem twoROf {w : World} {B0 b b' n : Nat} {most : Int} {L : LB} (h : TwoP w B0 b b' n most L) {p : Int} {f : Nat → Bool} (hl : lkL L p = some f) :
    Calls Tryd.prog 23 #[.pointer (some ⟨b', 0, none⟩), .int .i64 p] w fun e w' => (∃ x y : Nat, e = .returned (.tuple #[.pointer (some ⟨x, 0, none⟩), .int .i64 0]) ∧ RSet w' x y n f) ∧ Mod (fun _ => False) w w' := by
  obtain ⟨M, g, ks, base, ks', h⟩ := h
  rw [lk_absR h.e2] at hl
  obtain ⟨o, ho, rfl⟩ := Option.map_eq_some_iff.1 hl
  exact refROf p b' base n most ks' o w h.rd (by have := h.len; omega) h.rise.2 h.sm.2 ho
theorem twoROfNo {w : World} {B0 b b' n : Nat} {most : Int} {L : LB} (h : TwoP w B0 b b' n most L) {p : Int} (hl : lkL L p = none) :
    Calls Tryd.prog 23 #[.pointer (some ⟨b', 0, none⟩), .int .i64 p] w fun e w' => e = .returned (.tuple #[.pointer none, .int .i64 4]) ∧ w = w' := by
  obtain ⟨M, g, ks, base, ks', h⟩ := h
  rw [lk_absR h.e2] at hl
  exact refROfNo p b' base n most ks' w h.rd (by have := h.len; omega) h.rise.2 (Option.map_eq_none_iff.1 hl)
theorem twoHow {w : World} {B0 b b' n : Nat} {most : Int} {L : LB} (h : TwoP w B0 b b' n most L) (k : Int) :
    Calls Tryd.prog 13 #[.pointer (some ⟨b, 0, none⟩), .int .i64 k] w fun e w' => e = .returned (.int .i64 (cntR (cF L) n k)) ∧ w = w' := by
  obtain ⟨M, g, ks, base, ks', h⟩ := h
  have : cO ks = cF L := by funext j; rw [cO_cF, h.e1]
  rw [← this]
  exact rareHow k b M g n most (cO ks) ks w h.bd
theorem twoRHow {w : World} {B0 b b' n : Nat} {most : Int} {L : LB} (h : TwoP w B0 b b' n most L) (k : Int) :
    Calls Tryd.prog 24 #[.pointer (some ⟨b', 0, none⟩), .int .i64 k] w fun e w' => e = .returned (.int .i64 (cntR (cF L) n k)) ∧ w = w' := by
  obtain ⟨M, g, ks, base, ks', h⟩ := h
  have : absR ks' = L := h.e2
  rw [← this]
  exact refRHow k b' base n most ks' w h.rd (by have := h.len; omega)
theorem twoPick {w : World} {B0 b b' n : Nat} {most : Int} {L : LB} (h : TwoP w B0 b b' n most L) {p : Int} (hI : I64 p) (seed : Int) {so : Option Nat} {x : Option (Nat × (Nat → Bool))} {lo : Nat} (hs : SoB lo w so x) :
    Calls Tryd.prog 12 #[.pointer (some ⟨b, 0, none⟩), .int .i64 p, .pointer (so.map fun s => ⟨s, 0, none⟩), .int .u64 seed] w fun e w' => e = .returned (.int .i64 (pickA n L p x seed)) ∧ Mod (fun _ => False) w w' := by
  obtain ⟨M, g, ks, base, ks', h⟩ := h
  exact codePick p seed so x b M g n most ks L w h.bd h.e1 h.tab.1 h.sm.2.2 hI hs
theorem RD.ge {w : World} {b base n : Nat} {most : Int} {ks : List (Int × Rp)} (h : RD w b base n most ks) {i : Nat} (hi : RDb w b ks i) : b ≤ i := by
  obtain ⟨h1, ⟨a, cap, h2, h3, h4⟩, h5, h6⟩ := h
  rcases hi with rfl | ⟨X, m, c, hx, rfl⟩ | ⟨q, hq, rfl⟩
  · exact Nat.le_refl _
  · have hc : w.cell? ⟨b, 2, none⟩ = some (.slice a ks.length cap) := h2.cell 2
    rw [hc] at hx
    simp only [Option.some.injEq, Value.slice.injEq] at hx
    obtain ⟨rfl, _, _⟩ := hx
    have := (h3.blk X _ _ rfl).1
    omega
  · exact Nat.le_of_lt (Nat.lt_of_lt_of_le h1 ((h5 q hq).lt _ rfl).1)
/-- How both begin. -/
theorem TwoP.start {w w1 w2 : World} {n : Nat} {most : Int} {b M g base : Nat} (hB : BoardOk n most) (hT : TabW w) (h1 : BD w1 b M g n most (fun _ => 0) []) (hm1 : Mod (fun _ => False) w w1) (hlo : w.heap.size ≤ b ∧ w.heap.size ≤ M ∧ w.heap.size ≤ g)
    (h2 : RD w2 w1.heap.size base n most []) (hbase : base = w1.heap.size + 1) (hm2 : Mod (fun _ => False) w1 w2) (hz2 : w2.heap.size = w1.heap.size + 1) : TwoP w2 w.heap.size b w1.heap.size n most [] := by
  have hz1 := hm1.size
  have hin : ∀ i, BDb b M g [] i → w.heap.size ≤ i := fun i hi => by
    rcases hi with e | e | e | ⟨q, hq, _⟩
    · omega
    · omega
    · omega
    · simp at hq
  unfold BoardOk at hB
  refine ⟨M, g, [], base, [], (h1.new hm2).ext fun _ _ => rfl, h2, rfl, rfl, fun i hi hj => ?_, fun i hi => ?_, ⟨List.Pairwise.nil, by simp; omega, by simp⟩, by omega, by omega, (hT.mod hm1 fun h => h).mod hm2 fun h => h, hT.lt⟩
  · have := h1.lt hi
    have := h2.ge hj
    omega
  · rcases hi with hi | hi
    · exact hin i hi
    · have := h2.ge hi
      omega
end Go.Proofs.YtegmgflplhpacaaDoor
