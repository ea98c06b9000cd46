/- Package strikes: the book, what it tells of a peer; no condition. -/
import Derived.Test.YtiabjaaamgjlnaaRows
import Derived.Test.YtiabjaaamgjlnaaShelf
import Derived.Test.YtiabjaaamgjlnaaKit
import Derived.Test.YtiabjaaamgjlnaaStage
import Derived.Test.YtiabjaaamgjlnaaMapL
import Derived.Deep.QuietTactic
import Derived.BigQuiet
namespace Go.Proofs.Ytiabjaaamgjlnaa
open Go Go.RowKit

/-- What is known of a peer: its strikes, until when it is banned, what it wasted. -/
structure Rc where
  s : Int
  u : Int
  b : Int
def rcv (k : Int) (r : Rc) : Value := .agg #[.int .i64 k, .int .i64 r.s, .int .i64 r.u, .int .i64 r.b]
def mp (ks : List (Int × Rc)) : List (Int × Value) := ks.map fun p => (p.1, rcv p.1 p.2)
def rd (ks : List (Int × Rc)) (id : Int) : Rc := (lkL ks id).getD ⟨0, 0, 0⟩
def idf (ks : List (Int × Rc)) (id : Int) : Int := if (lkL ks id).isSome then id else 0
theorem lk_mp (ks : List (Int × Rc)) (id : Int) : lkL (mp ks) id = (lkL ks id).map (rcv id) := by
  unfold lkL mp
  rw [List.find?_map]
  cases h : ks.find? (fun p => p.1 == id) with
  | none => rw [show ((fun p : Int × Value => p.1 == id) ∘ fun p : Int × Rc => (p.1, rcv p.1 p.2)) = fun p => p.1 == id from rfl, h]; rfl
  | some p =>
    rw [show ((fun p : Int × Value => p.1 == id) ∘ fun p : Int × Rc => (p.1, rcv p.1 p.2)) = fun p => p.1 == id from rfl, h]
    have := List.find?_some h
    simp at this
    simp [this]
theorem at_mp (ks : List (Int × Rc)) (id : Int) : (lkL (mp ks) id).getD (.agg #[.int .i64 0, .int .i64 0, .int .i64 0, .int .i64 0]) = .agg #[.int .i64 (idf ks id), .int .i64 (rd ks id).s, .int .i64 (rd ks id).u, .int .i64 (rd ks id).b] := by
  rw [lk_mp]
  unfold rd idf
  cases lkL ks id <;> rfl
theorem del_mp (ks : List (Int × Rc)) (id : Int) : delL (mp ks) id = mp (delL ks id) := by
  unfold delL mp
  rw [List.filter_map]
  rfl
theorem ins_mp (id : Int) (r : Rc) : ∀ ks : List (Int × Rc), insS (id, rcv id r) (mp ks) = mp (insS (id, r) ks)
  | [] => rfl
  | y :: t => by
    show insS (id, rcv id r) ((y.1, rcv y.1 y.2) :: mp t) = _
    unfold insS
    by_cases h : id < y.1
    · simp only [h, if_true]; rfl
    · simp only [h, if_false, ins_mp id r t]; rfl
theorem put_mp (ks : List (Int × Rc)) (id : Int) (r : Rc) : putL (mp ks) id (rcv id r) = mp (putL ks id r) := by
  unfold putL
  rw [del_mp, ins_mp]

theorem mp_len (ks : List (Int × Rc)) : (mp ks).length = ks.length := by simp [mp]
/-- A book at block b, its map at block M. -/
structure BK (w : World) (b M : Nat) (lim ban most : Int) (ks : List (Int × Rc)) : Prop where
  head : Blk w b #[.int .i64 lim, .int .i64 ban, .int .i64 most, .map (some M)] 54
  map : IMap Try.prog 3 w M (mp ks)
  ne : M ≠ b
theorem BK.mod {S : Nat → Prop} {w w' : World} {b M : Nat} {lim ban most : Int} {ks : List (Int × Rc)} (h : BK w b M lim ban most ks) (hm : Mod S w w') (hb : ¬ S b) (hM : ¬ S M) : BK w' b M lim ban most ks := ⟨h.head.mod hm hb, h.map.mod hm hM, h.ne⟩
theorem BK.drewN {w : World} {b M : Nat} {lim ban most : Int} {ks : List (Int × Rc)} (h : BK w b M lim ban most ks) (n : Nat) : BK (w.drewN n) b M lim ban most ks := ⟨h.head, h.map.drewN n, h.ne⟩

theorem zeroKnown (w : World) : (zeroValue 56).run Try.prog w = .ok (.agg #[.int .i64 0, .int .i64 0, .int .i64 0, .int .i64 0]) w := by kernel_rfl

@[go_sem] theorem fld0 (a b c d : Value) (w : World) : (Instr.field 56 (.agg #[a, b, c, d]) 0).run Try.prog w = .ok a w := by kernel_rfl
@[go_sem] theorem fld1 (a b c d : Value) (w : World) : (Instr.field 56 (.agg #[a, b, c, d]) 1).run Try.prog w = .ok b w := by kernel_rfl
@[go_sem] theorem fld2 (a b c d : Value) (w : World) : (Instr.field 56 (.agg #[a, b, c, d]) 2).run Try.prog w = .ok c w := by kernel_rfl
@[go_sem] theorem fld3 (a b c d : Value) (w : World) : (Instr.field 56 (.agg #[a, b, c, d]) 3).run Try.prog w = .ok d w := by kernel_rfl

set_option maxRecDepth 100000 in
set_option maxHeartbeats 400000 in
theorem strWasted (id : Int) (b M : Nat) (lim ban most : Int) (ks : List (Int × Rc)) (w : World) (hi : I64 id) (h : BK w b M lim ban most ks) :
    Calls Try.prog 11 #[.pointer (some ⟨b, 0, none⟩), .int .i64 id] w fun e w' => e = .returned (.int .i64 (rd ks id).b) ∧ w = w' := by
  have c3 : w.cell? ⟨b, 3, none⟩ = some (.map (some M)) := h.head.cell 3
  have hl := h.map.look Try.underlying3 Try.underlying52 (zeroKnown w) hi
  rw [at_mp] at hl
  clear h hi
  go_enter Try.func11, Try.ntmps11
  go_wp2_with fail
  go_ret
  exact ⟨rfl, rfl⟩

set_option maxRecDepth 100000 in
set_option maxHeartbeats 400000 in
theorem strStrikes (id : Int) (b M : Nat) (lim ban most : Int) (ks : List (Int × Rc)) (w : World) (hi : I64 id) (h : BK w b M lim ban most ks) :
    Calls Try.prog 14 #[.pointer (some ⟨b, 0, none⟩), .int .i64 id] w fun e w' => e = .returned (.int .i64 (rd ks id).s) ∧ w = w' := by
  have c3 : w.cell? ⟨b, 3, none⟩ = some (.map (some M)) := h.head.cell 3
  have hl := h.map.look Try.underlying3 Try.underlying52 (zeroKnown w) hi
  rw [at_mp] at hl
  clear h hi
  go_enter Try.func14, Try.ntmps14
  go_wp2_with fail
  go_ret
  exact ⟨rfl, rfl⟩

/-- Is a peer not asked? -/
def bnd (ks : List (Int × Rc)) (id now : Int) : Bool := decide (0 < (rd ks id).u) && decide (now < (rd ks id).u)
set_option maxRecDepth 100000 in
set_option maxHeartbeats 400000 in
theorem strBanned (id now : Int) (b M : Nat) (lim ban most : Int) (ks : List (Int × Rc)) (w : World) (hi : I64 id) (h : BK w b M lim ban most ks) :
    Calls Try.prog 12 #[.pointer (some ⟨b, 0, none⟩), .int .i64 id, .int .i64 now] w fun e w' => e = .returned (.bool (bnd ks id now)) ∧ w = w' := by
  have c3 : w.cell? ⟨b, 3, none⟩ = some (.map (some M)) := h.head.cell 3
  have hl := h.map.look Try.underlying3 Try.underlying52 (zeroKnown w) hi
  rw [at_mp] at hl
  clear h hi
  unfold bnd
  generalize rd ks id = r at hl ⊢
  generalize idf ks id = i at hl
  clear ks
  by_cases h1 : 0 < r.u
  · go_enter Try.func12, Try.ntmps12
    go_wp2_with fail
    go_ret
    exact ⟨by simp [h1], rfl⟩
  · have h2 : decide (0 < r.u) = false := by simpa using h1
    go_enter Try.func12, Try.ntmps12
    go_wp2_with fail
    go_ret
    exact ⟨by simp, rfl⟩

set_option maxHeartbeats 400000 in
theorem strWithin (n lo hi : Int) (w : World) :
    Calls Try.prog 23 #[.int .i64 n, .int .i64 lo, .int .i64 hi] w fun e w' => e = .returned (.bool (decide (lo ≤ n) && decide (n ≤ hi))) ∧ w = w' := by
  by_cases h1 : lo ≤ n
  · go_enter Try.func23, Try.ntmps23
    go_wp2_with fail
    go_ret
    exact ⟨by simp [h1], rfl⟩
  · have h2 : decide (lo ≤ n) = false := by simpa using h1
    go_enter Try.func23, Try.ntmps23
    go_wp2_with fail
    go_ret
    exact ⟨by simp, rfl⟩

set_option maxRecDepth 100000 in
set_option maxHeartbeats 400000 in
theorem strNew (lim ban most : Int) (w : World) (h1 : 1 ≤ lim) (h2 : lim ≤ 100) (h3 : 1 ≤ ban) (h4 : ban ≤ 1048576) (h5 : 1 ≤ most) (h6 : most ≤ 64) :
    Calls Try.prog 9 #[.int .i64 lim, .int .i64 ban, .int .i64 most] w fun e w' => e = .returned (.tuple #[.pointer (some ⟨w.heap.size + 1, 0, none⟩), .int .i64 0]) ∧ BK w' (w.heap.size + 1) w.heap.size lim ban most [] ∧ Mod (fun _ => False) w w' ∧ w'.heap.size = w.heap.size + 2 := by
  have e1 : (decide (1 ≤ lim) && decide (lim ≤ 100)) = true := by simp [h1, h2]
  have e2 : (decide (1 ≤ ban) && decide (ban ≤ 1048576)) = true := by simp [h3, h4]
  have e3 : (decide (1 ≤ most) && decide (most ≤ 64)) = true := by simp [h5, h6]
  have hmm := @run_makeMap Try.prog
  go_enter Try.func9, Try.ntmps9
  go_wp2_with fail
  refine (strWithin _ _ _ _).mono ?_; rw [e1]; rintro e w' ⟨rfl, rfl⟩
  go_wp2_with fail
  refine (strWithin _ _ _ _).mono ?_; rw [e2]; rintro e w' ⟨rfl, rfl⟩
  go_wp2_with fail
  refine (strWithin _ _ _ _).mono ?_; rw [e3]; rintro e w' ⟨rfl, rfl⟩
  go_wp2_with fail
  go_ret2
  refine ⟨rfl, ⟨?_, (IMap.made Try.prog 3 w).alloc _, by omega⟩, ((Mod.refl _ w).alloc _).alloc _, by simp⟩
  have := Blk.new (w.alloc (.map #[] 0)) #[.int .i64 lim, .int .i64 ban, .int .i64 most, .map (some w.heap.size)] 54
  simpa using this

set_option maxRecDepth 100000 in
set_option maxHeartbeats 400000 in
theorem strNewBad (lim ban most : Int) (w : World) (h : ¬ (1 ≤ lim ∧ lim ≤ 100 ∧ 1 ≤ ban ∧ ban ≤ 1048576 ∧ 1 ≤ most ∧ most ≤ 64)) :
    Calls Try.prog 9 #[.int .i64 lim, .int .i64 ban, .int .i64 most] w fun e w' => e = .returned (.tuple #[.pointer none, .int .i64 1]) ∧ w = w' := by
  by_cases a1 : 1 ≤ lim ∧ lim ≤ 100
  · have e1 : (decide (1 ≤ lim) && decide (lim ≤ 100)) = true := by simp [a1.1, a1.2]
    by_cases a2 : 1 ≤ ban ∧ ban ≤ 1048576
    · have e2 : (decide (1 ≤ ban) && decide (ban ≤ 1048576)) = true := by simp [a2.1, a2.2]
      have e3 : (decide (1 ≤ most) && decide (most ≤ 64)) = false := by
        rw [Bool.and_eq_false_iff, decide_eq_false_iff_not, decide_eq_false_iff_not]; omega
      clear h a1 a2
      go_enter Try.func9, Try.ntmps9
      go_wp2_with fail
      refine (strWithin _ _ _ _).mono ?_; rw [e1]; rintro e w' ⟨rfl, rfl⟩
      go_wp2_with fail
      refine (strWithin _ _ _ _).mono ?_; rw [e2]; rintro e w' ⟨rfl, rfl⟩
      go_wp2_with fail
      refine (strWithin _ _ _ _).mono ?_; rw [e3]; rintro e w' ⟨rfl, rfl⟩
      go_wp2_with fail
      go_ret2
      exact ⟨rfl, rfl⟩
    · have e2 : (decide (1 ≤ ban) && decide (ban ≤ 1048576)) = false := by
        rw [Bool.and_eq_false_iff, decide_eq_false_iff_not, decide_eq_false_iff_not]; omega
      clear h a1 a2
      go_enter Try.func9, Try.ntmps9
      go_wp2_with fail
      refine (strWithin _ _ _ _).mono ?_; rw [e1]; rintro e w' ⟨rfl, rfl⟩
      go_wp2_with fail
      refine (strWithin _ _ _ _).mono ?_; rw [e2]; rintro e w' ⟨rfl, rfl⟩
      go_wp2_with fail
      go_ret2
      exact ⟨rfl, rfl⟩
  · have e1 : (decide (1 ≤ lim) && decide (lim ≤ 100)) = false := by
      rw [Bool.and_eq_false_iff, decide_eq_false_iff_not, decide_eq_false_iff_not]; omega
    clear h a1
    go_enter Try.func9, Try.ntmps9
    go_wp2_with fail
    refine (strWithin _ _ _ _).mono ?_; rw [e1]; rintro e w' ⟨rfl, rfl⟩
    go_wp2_with fail
    go_ret2
    exact ⟨rfl, rfl⟩
end Go.Proofs.Ytiabjaaamgjlnaa
