/- Package flight: the table, New, Of; no condition. -/
import Derived.Test.YtfopglaagnbacaaDoorRows
import Derived.Test.YtfopglaagnbacaaDoorShelf
import Derived.Test.YtfopglaagnbacaaDoorKit
import Derived.Test.YtfopglaagnbacaaDoorReg
import Derived.Test.YtfopglaagnbacaaDoorMapV
import Derived.Test.YtfopglaagnbacaaDoorRange
import Derived.Deep.QuietTactic
import Derived.BigQuiet
namespace Go.Proofs.YtfopglaagnbacaaDoor.Fl
open Go Go.RowKit

/-- Of a piece that is on the way: who was asked for it, and when. -/
structure Rq where
  p : Int
  t : Int
def rqv (k : Int) (r : Rq) : Value := .agg #[.int .i64 r.p, .int .i64 k, .int .i64 r.t]
abbrev rq0 : Value := .agg #[.int .i64 0, .int .i64 0, .int .i64 0]
/-- A table at block b, its map at block M. -/
structure TB (w : World) (b M : Nat) (most each pat : Int) (ks : List (Int × Rq)) : Prop where
  head : Blk w b #[.int .i64 most, .int .i64 each, .int .i64 pat, .map (some M)] 79
  map : IMap Tryd.prog 3 w M (mpV rqv ks)
  ne : M ≠ b
theorem TB.mod {S : Nat → Prop} {w w' : World} {b M : Nat} {most each pat : Int} {ks : List (Int × Rq)} (h : TB w b M most each pat ks) (hm : Mod S w w') (hb : ¬ S b) (hM : ¬ S M) : TB w' b M most each pat ks := ⟨h.head.mod hm hb, h.map.mod hm hM, h.ne⟩
theorem TB.new {w w' : World} {b M : Nat} {most each pat : Int} {ks : List (Int × Rq)} (h : TB w b M most each pat ks) (hm : Mod (fun _ => False) w w') : TB w' b M most each pat ks := h.mod hm (fun h => h) (fun h => h)
theorem TB.drewN {w : World} {b M : Nat} {most each pat : Int} {ks : List (Int × Rq)} (h : TB w b M most each pat ks) (n : Nat) : TB (w.drewN n) b M most each pat ks := ⟨h.head, h.map.drewN n, h.ne⟩
theorem TB.lt {w : World} {b M : Nat} {most each pat : Int} {ks : List (Int × Rq)} (h : TB w b M most each pat ks) : b < w.heap.size ∧ M < w.heap.size := ⟨h.head.lt, h.map.lt⟩
theorem TB.rising {w : World} {b M : Nat} {most each pat : Int} {ks : List (Int × Rq)} (h : TB w b M most each pat ks) : Rising ks := rising_mpV.1 h.map.rising

theorem zeroRq (w : World) : (zeroValue 45).run Tryd.prog w = .ok rq0 w := by kernel_rfl

set_option maxHeartbeats 400000 in
theorem flWithin (n lo hi : Int) (w : World) :
    Calls Tryd.prog 27 #[.int .i64 n, .int .i64 lo, .int .i64 hi] w fun e w' => e = .returned (.bool (decide (lo ≤ n) && decide (n ≤ hi))) ∧ w = w' := by
  by_cases h1 : lo ≤ n
  · go_enter Tryd.func27, Tryd.ntmps27
    go_wp2_with fail
    go_ret
    exact ⟨by simp [h1], rfl⟩
  · have h2 : decide (lo ≤ n) = false := by simpa using h1
    go_enter Tryd.func27, Tryd.ntmps27
    go_wp2_with fail
    go_ret
    exact ⟨by simp, rfl⟩

/-- What New asks. -/
def NewOk (most each pat : Int) : Prop := 1 ≤ most ∧ most ≤ 256 ∧ 1 ≤ each ∧ each ≤ most ∧ 1 ≤ pat ∧ pat ≤ 1048576
set_option maxRecDepth 100000 in
set_option maxHeartbeats 400000 in
theorem flNew (most each pat : Int) (w : World) (h : NewOk most each pat) :
    Calls Tryd.prog 15 #[.int .i64 most, .int .i64 each, .int .i64 pat] w fun e w' => e = .returned (.tuple #[.pointer (some ⟨w.heap.size + 1, 0, none⟩), .int .i64 0]) ∧ TB w' (w.heap.size + 1) w.heap.size most each pat [] ∧ Mod (fun _ => False) w w' ∧ w'.heap.size = w.heap.size + 2 := by
  obtain ⟨h1, h2, h3, h4, h5, h6⟩ := h
  have e1 : (decide (1 ≤ most) && decide (most ≤ 256)) = true := by simp [h1, h2]
  have e2 : (decide (1 ≤ each) && decide (each ≤ most)) = true := by simp [h3, h4]
  have e3 : (decide (1 ≤ pat) && decide (pat ≤ 1048576)) = true := by simp [h5, h6]
  have hmm := @run_makeMap Tryd.prog
  go_enter Tryd.func15, Tryd.ntmps15
  go_wp2_with fail
  refine (flWithin _ _ _ _).mono ?_; rw [e1]; rintro e w' ⟨rfl, rfl⟩
  go_wp2_with fail
  refine (flWithin _ _ _ _).mono ?_; rw [e2]; rintro e w' ⟨rfl, rfl⟩
  go_wp2_with fail
  refine (flWithin _ _ _ _).mono ?_; rw [e3]; rintro e w' ⟨rfl, rfl⟩
  go_wp2_with fail
  go_ret2
  refine ⟨rfl, ⟨?_, (IMap.made Tryd.prog 3 w).alloc _, by omega⟩, ((Mod.refl _ w).alloc _).alloc _, by simp⟩
  have := Blk.new (w.alloc (.map #[] 0)) #[.int .i64 most, .int .i64 each, .int .i64 pat, .map (some w.heap.size)] 79
  simpa using this
set_option maxRecDepth 100000 in
set_option maxHeartbeats 400000 in
theorem flNewBad (most each pat : Int) (w : World) (h : ¬ NewOk most each pat) :
    Calls Tryd.prog 15 #[.int .i64 most, .int .i64 each, .int .i64 pat] w fun e w' => e = .returned (.tuple #[.pointer none, .int .i64 1]) ∧ w = w' := by
  unfold NewOk at h
  by_cases a1 : 1 ≤ most ∧ most ≤ 256
  · have e1 : (decide (1 ≤ most) && decide (most ≤ 256)) = true := by simp [a1.1, a1.2]
    by_cases a2 : 1 ≤ each ∧ each ≤ most
    · have e2 : (decide (1 ≤ each) && decide (each ≤ most)) = true := by simp [a2.1, a2.2]
      have e3 : (decide (1 ≤ pat) && decide (pat ≤ 1048576)) = false := by
        rw [Bool.and_eq_false_iff, decide_eq_false_iff_not, decide_eq_false_iff_not]; omega
      clear h a1 a2
      go_enter Tryd.func15, Tryd.ntmps15
      go_wp2_with fail
      refine (flWithin _ _ _ _).mono ?_; rw [e1]; rintro e w' ⟨rfl, rfl⟩
      go_wp2_with fail
      refine (flWithin _ _ _ _).mono ?_; rw [e2]; rintro e w' ⟨rfl, rfl⟩
      go_wp2_with fail
      refine (flWithin _ _ _ _).mono ?_; rw [e3]; rintro e w' ⟨rfl, rfl⟩
      go_wp2_with fail
      go_ret2
      exact ⟨rfl, rfl⟩
    · have e2 : (decide (1 ≤ each) && decide (each ≤ most)) = false := by
        rw [Bool.and_eq_false_iff, decide_eq_false_iff_not, decide_eq_false_iff_not]; omega
      clear h a1 a2
      go_enter Tryd.func15, Tryd.ntmps15
      go_wp2_with fail
      refine (flWithin _ _ _ _).mono ?_; rw [e1]; rintro e w' ⟨rfl, rfl⟩
      go_wp2_with fail
      refine (flWithin _ _ _ _).mono ?_; rw [e2]; rintro e w' ⟨rfl, rfl⟩
      go_wp2_with fail
      go_ret2
      exact ⟨rfl, rfl⟩
  · have e1 : (decide (1 ≤ most) && decide (most ≤ 256)) = false := by
      rw [Bool.and_eq_false_iff, decide_eq_false_iff_not, decide_eq_false_iff_not]; omega
    clear h a1
    go_enter Tryd.func15, Tryd.ntmps15
    go_wp2_with fail
    refine (flWithin _ _ _ _).mono ?_; rw [e1]; rintro e w' ⟨rfl, rfl⟩
    go_wp2_with fail
    go_ret2
    exact ⟨rfl, rfl⟩

/-- What the table has of a piece. -/
def rqAt (ks : List (Int × Rq)) (k : Int) : Value := ((lkL ks k).map (rqv k)).getD rq0
theorem rqAt_agg (ks : List (Int × Rq)) (k : Int) : ∃ a b c : Int, rqAt ks k = .agg #[.int .i64 a, .int .i64 b, .int .i64 c] := by
  unfold rqAt
  cases lkL ks k with
  | none => exact ⟨0, 0, 0, rfl⟩
  | some r => exact ⟨r.p, k, r.t, rfl⟩
set_option maxRecDepth 100000 in
set_option maxHeartbeats 400000 in
theorem flOf (k : Int) (b M : Nat) (most each pat : Int) (ks : List (Int × Rq)) (w : World) (hk : I64 k) (h : TB w b M most each pat ks) :
    Calls Tryd.prog 25 #[.pointer (some ⟨b, 0, none⟩), .int .i64 k] w fun e w' => e = .returned (.tuple #[rqAt ks k, .bool (lkL ks k).isSome]) ∧ Mod (fun _ => False) w w' := by
  have c3 : w.cell? ⟨b, 3, none⟩ = some (.map (some M)) := h.head.cell 3
  have hl : ∀ o, (Instr.lookup 77 (.map (some M)) (.int .i64 k) true).run Tryd.prog (w.alloc o) = .ok (.tuple #[rqAt ks k, .bool (lkL ks k).isSome]) (w.alloc o) := by
    intro o
    have := (h.map.alloc o).lookOk Tryd.underlying3 Tryd.underlying77 (zeroRq _) hk
    rw [lk_mpV] at this
    rw [this]
    unfold rqAt
    cases lkL ks k <;> rfl
  obtain ⟨x, y, z, hx⟩ := rqAt_agg ks k
  have hlt := h.lt
  rw [hx] at hl ⊢
  clear h hx
  go_enter Tryd.func25, Tryd.ntmps25
  go_wp2_with fail
  exact bodyPost_ret (v := .tuple #[.agg #[.int .i64 x, .int .i64 y, .int .i64 z], .bool (lkL ks k).isSome]) (by simp [results, Tryd.results25, go_sem]) rfl ⟨rfl, ((Mod.refl _ w).alloc _).alloc _⟩

/-- How many a peer was asked for. -/
def many (ks : List (Int × Rq)) (p : Int) : Nat := (ks.filter fun q => q.2.p == p).length
theorem many_le (ks : List (Int × Rq)) (p : Int) : many ks p ≤ ks.length := List.length_filter_le _ _
theorem many_del (p x : Int) (r : Rq) : ∀ {ks : List (Int × Rq)}, Rising ks → (x, r) ∈ ks → many ks p = many (delL ks x) p + if r.p = p then 1 else 0
  | [], _, h => by simp at h
  | q :: t, hr, h => by
    obtain ⟨h1, h2⟩ := List.pairwise_cons.1 hr
    by_cases e : q.1 = x
    · have hq : q = (x, r) := by
        rcases List.mem_cons.1 h with h | h
        · exact h.symm
        · have := h1 _ h
          simp only at this
          omega
      have hd : delL (q :: t) x = t := by
        have : delL t x = t := by
          unfold delL
          rw [List.filter_eq_self]
          intro y hy
          have := h1 y hy
          simp
          omega
        unfold delL at this ⊢
        rw [List.filter_cons, if_neg (by simp [e]), this]
      rw [hd, hq]
      unfold many
      rw [List.filter_cons]
      by_cases hp : r.p = p <;> simp [hp]
    · have ht : (x, r) ∈ t := by
        rcases List.mem_cons.1 h with h | h
        · exact absurd (by rw [← h]) e
        · exact h
      have hd : delL (q :: t) x = q :: delL t x := by
        unfold delL
        rw [List.filter_cons, if_pos (by simpa using e)]
      have ih := many_del p x r h2 ht
      rw [hd]
      unfold many at ih ⊢
      rw [List.filter_cons, List.filter_cons]
      by_cases hp : (q.2.p == p) = true
      · rw [if_pos hp, if_pos hp, List.length_cons, List.length_cons, ih]; omega
      · rw [if_neg hp, if_neg hp, ih]
theorem mem_mpV {α : Type} {f : Int → α → Value} {ks : List (Int × α)} {x : Int} {c : Value} (h : (x, c) ∈ mpV f ks) : ∃ r, (x, r) ∈ ks ∧ c = f x r := by
  obtain ⟨q, hq, e⟩ := List.mem_map.1 h
  obtain ⟨k, r⟩ := q
  simp only [Prod.mk.injEq] at e
  obtain ⟨rfl, rfl⟩ := e
  exact ⟨r, hq, rfl⟩

set_option maxRecDepth 100000 in
set_option maxHeartbeats 1000000 in
theorem flMany (p : Int) (b M : Nat) (most each pat : Int) (ks : List (Int × Rq)) (w : World) (h : TB w b M most each pat ks) (hlen : ks.length ≤ 100000) :
    Calls Tryd.prog 36 #[.pointer (some ⟨b, 0, none⟩), .int .i64 p] w fun e w' => e = .returned (.int .i64 (many ks p)) ∧ Mod (fun _ => False) w w' := by
  have c3 : w.cell? ⟨b, 3, none⟩ = some (.map (some M)) := h.head.cell 3
  have hml := many_le ks p
  have hM := h.lt
  have hri := h.rising
  have HM := Lib.hid h.map
  have HRI := Lib.hid hri
  clear h hri
  go_enter Tryd.func36, Tryd.ntmps36
  go_wp2_with (at_range; refine range_start rfl _ rfl Tryd.underlying3 Tryd.underlying77 rfl HM.out ?_; intro w0 hr0 m0 z0)
  obtain ⟨B, hB⟩ : ∃ B, B = w.heap.size := ⟨_, rfl⟩
  rw [← hB] at hr0 hM ⊢
  have HR0 := Lib.hid hr0
  have HB := Lib.hid hB
  clear hr0 c3 hB z0
  go_frame
  go_loopw [5] (fun v wr => ∃ (c : Nat) (td : List (Int × Rq)), v = .int .i64 c ∧ c ≤ ks.length ∧ Hid (c + many td p = many ks p) ∧ Hid (Rising td) ∧ Hid (IRange Tryd.prog 3 wr M B (mpV rqv ks) (mpV rqv td)) ∧ Mod (· = B) w0 wr) (fun _ wr => wr.rangeLeft M B)
  case atStart => exact ⟨0, ks, rfl, Nat.zero_le _, Nat.zero_add _, HRI, HR0, Mod.refl _ _⟩
  case round =>
    obtain ⟨c, td, rfl, hc, hsum, hrt, hrg, hm⟩ := hrel
    go_wp2_with (at_next; refine range_next rfl _ rfl Tryd.underlying3 rfl hrg.out ?_ ?_)
    · intro hnil
      have htd : td = [] := by simpa [mpV] using hnil
      have hfin : c = many ks p := by have := hsum.out; rw [htd] at this; exact this
      have HF := Lib.hid hfin
      clear hnil htd hfin
      go_wp2_with fail
      go_ret
      exact ⟨by rw [HF.out]; rfl, m0.new hm (by intro i hi; have := HB.out; omega)⟩
    · intro x v w1 hx hmem hmem2 hrg1 hlt hm1 hz1 hen
      obtain ⟨r, hr, rfl⟩ := mem_mpV hmem
      rw [del_mpV] at hrg1
      have hdel := many_del p x r hrt.out hr
      have hrt1 := rising_del hrt.out x
      have hen' := hen
      unfold rqv at hen'
      have HS := Lib.hid hsum.out
      have HD := Lib.hid hdel
      have HRG := Lib.hid hrg1
      have HRT := Lib.hid hrt1
      have HLT := Lib.hid hlt
      have hmm := hm.trans hm1
      have hcl : c + 1 ≤ ks.length ∨ r.p ≠ p := by
        by_cases e : r.p = p
        · rw [if_pos e] at hdel
          have := hsum.out
          exact .inl (by omega)
        · exact .inr e
      unfold rqv
      clear hmem hmem2 hrg1 hlt hdel hrt1 hen hm hm1 hz1 hr
      have ma : Mod (fun _ => False) w1 (w1.alloc (.cells #[.int .i64 r.p, .int .i64 x, .int .i64 r.t] 45)) := (Mod.refl _ w1).alloc _
      have HRG2 := Lib.hid (HRG.out.new ma)
      have HL2 := Lib.hid (HRG.out.left ma)
      by_cases e : r.p = p
      · have e' : (r.p == p) = true := by simpa using e
        have hc1 : c + 1 ≤ ks.length := by rcases hcl with h | h; exact h; exact absurd e h
        have hd1 := HD.out
        rw [if_pos e] at hd1
        have HSUM := Lib.hid (show c + 1 + many (delL td x) p = many ks p by have := HS.out; omega)
        clear hd1 e hcl ma
        go_wp2_with fail
        exact ⟨⟨c + 1, delL td x, by go_num, hc1, HSUM, HRT, HRG2, hmm.alloc _⟩, by rw [HL2.out]; exact HLT.out⟩
      · have e' : (r.p == p) = false := by simpa using e
        have hd1 := HD.out
        rw [if_neg e] at hd1
        have HSUM := Lib.hid (show c + many (delL td x) p = many ks p by have := HS.out; omega)
        clear hd1 e hcl ma
        go_wp2_with fail
        exact ⟨⟨c, delL td x, rfl, hc, HSUM, HRT, HRG2, hmm.alloc _⟩, by rw [HL2.out]; exact HLT.out⟩

set_option maxRecDepth 100000 in
set_option maxHeartbeats 400000 in
theorem flDoneNo (k : Int) (b M : Nat) (most each pat : Int) (ks : List (Int × Rq)) (w : World) (hk : I64 k) (h : TB w b M most each pat ks) (hno : lkL ks k = none) :
    Calls Tryd.prog 26 #[.pointer (some ⟨b, 0, none⟩), .int .i64 k] w fun e w' => e = .returned (.tuple #[rq0, .int .i64 4]) ∧ Mod (fun _ => False) w w' := by
  have c3 : w.cell? ⟨b, 3, none⟩ = some (.map (some M)) := h.head.cell 3
  have hl : ∀ o, (Instr.lookup 77 (.map (some M)) (.int .i64 k) true).run Tryd.prog (w.alloc o) = .ok (.tuple #[rq0, .bool false]) (w.alloc o) := by
    intro o
    have := (h.map.alloc o).lookOk Tryd.underlying3 Tryd.underlying77 (zeroRq _) hk
    rw [lk_mpV, hno] at this
    exact this
  have hlt := h.lt
  have hz := zeroRq
  clear h hno
  go_enter Tryd.func26, Tryd.ntmps26
  go_wp2_with fail
  exact bodyPost_ret (v := .tuple #[.agg #[.int .i64 0, .int .i64 0, .int .i64 0], .int .i64 4]) (by simp [results, Tryd.results26, go_sem]) rfl ⟨rfl, by first | exact (((Mod.refl _ w).alloc _).alloc _) | exact (((Mod.refl _ w).alloc _).alloc _).setCell (.inr (by simp)) _⟩
end Go.Proofs.YtfopglaagnbacaaDoor.Fl
