/- Members: records of four ints, the map of them; no condition. -/
import Derived.Test.YtagiodagbfahpaaRows
import Derived.Test.YtagiodagbfahpaaShelf
import Derived.Test.YtagiodagbfahpaaKit
import Derived.Test.YtagiodagbfahpaaStage
import Derived.Test.YtagiodagbfahpaaMapL
import Derived.Test.YtagiodagbfahpaaKeysL
import Derived.Test.YtagiodagbfahpaaRegO
import Derived.Test.YtagiodagbfahpaaLeft
import Derived.Deep.QuietTactic
import Derived.BigQuiet
namespace Go.Proofs.Ytagiodagbfahpaa
open Go Go.RowKit

/-- What is known of a peer: its strikes, until when it is banned, what it wasted. -/
structure Rc where
  s : Int
  u : Int
  b : Int
def rcv (k : Int) (r : Rc) : Value := .agg #[.int .i64 k, .int .i64 r.s, .int .i64 r.u, .int .i64 r.b]
def mp (ks : List (Int × Rc)) : List (Int × Value) := ks.map fun p => (p.1, rcv p.1 p.2)
def rd (ks : List (Int × Rc)) (id : Int) : Rc := (lkL ks id).getD ⟨0, 0, 0⟩
def idf (ks : List (Int × Rc)) (id : Int) : Int := if (lkL ks id).isSome then id else 0
theorem lk_mp (ks : List (Int × Rc)) (id : Int) : lkL (mp ks) id = (lkL ks id).map (rcv id) := by
  unfold lkL mp
  rw [List.find?_map]
  cases h : ks.find? (fun p => p.1 == id) with
  | none => rw [show ((fun p : Int × Value => p.1 == id) ∘ fun p : Int × Rc => (p.1, rcv p.1 p.2)) = fun p => p.1 == id from rfl, h]; rfl
  | some p =>
    rw [show ((fun p : Int × Value => p.1 == id) ∘ fun p : Int × Rc => (p.1, rcv p.1 p.2)) = fun p => p.1 == id from rfl, h]
    have := List.find?_some h
    simp at this
    simp [this]
theorem at_mp (ks : List (Int × Rc)) (id : Int) : (lkL (mp ks) id).getD (.agg #[.int .i64 0, .int .i64 0, .int .i64 0, .int .i64 0]) = .agg #[.int .i64 (idf ks id), .int .i64 (rd ks id).s, .int .i64 (rd ks id).u, .int .i64 (rd ks id).b] := by
  rw [lk_mp]
  unfold rd idf
  cases lkL ks id <;> rfl
theorem del_mp (ks : List (Int × Rc)) (id : Int) : delL (mp ks) id = mp (delL ks id) := by
  unfold delL mp
  rw [List.filter_map]
  rfl
theorem ins_mp (id : Int) (r : Rc) : ∀ ks : List (Int × Rc), insS (id, rcv id r) (mp ks) = mp (insS (id, r) ks)
  | [] => rfl
  | y :: t => by
    show insS (id, rcv id r) ((y.1, rcv y.1 y.2) :: mp t) = _
    unfold insS
    by_cases h : id < y.1
    · simp only [h, if_true]; rfl
    · simp only [h, if_false, ins_mp id r t]; rfl
theorem put_mp (ks : List (Int × Rc)) (id : Int) (r : Rc) : putL (mp ks) id (rcv id r) = mp (putL ks id r) := by
  unfold putL
  rw [del_mp, ins_mp]

theorem mp_len (ks : List (Int × Rc)) : (mp ks).length = ks.length := by simp [mp]
theorem zeroKnown (w : World) : (zeroValue 29).run Try.prog w = .ok (.agg #[.int .i64 0, .int .i64 0, .int .i64 0, .int .i64 0]) w := by kernel_rfl

@[go_sem] theorem fld0 (a b c d : Value) (w : World) : (Instr.field 29 (.agg #[a, b, c, d]) 0).run Try.prog w = .ok a w := by kernel_rfl
@[go_sem] theorem fld1 (a b c d : Value) (w : World) : (Instr.field 29 (.agg #[a, b, c, d]) 1).run Try.prog w = .ok b w := by kernel_rfl
@[go_sem] theorem fld2 (a b c d : Value) (w : World) : (Instr.field 29 (.agg #[a, b, c, d]) 2).run Try.prog w = .ok c w := by kernel_rfl
@[go_sem] theorem fld3 (a b c d : Value) (w : World) : (Instr.field 29 (.agg #[a, b, c, d]) 3).run Try.prog w = .ok d w := by kernel_rfl

theorem keys_mp (ks : List (Int × Rc)) : keysL (mp ks) = keysL ks := by
  simp [mp, keysL, List.map_map]
theorem infoInt : (Try.prog.info? 3).map (fun i => (i.zero, i.size, i.bytes)) = some (some (.int .i64 0), 1, 8) := by kernel_rfl
theorem rising_mp {ks : List (Int × Rc)} : Rising (mp ks) ↔ Rising ks := by
  unfold Rising mp
  rw [List.pairwise_map]
theorem intL_append (a b : List Int) : intL (a ++ b) = intL a ++ intL b := List.map_append
theorem i64_of {k : Int} (h1 : -1000000000000 ≤ k) (h2 : k ≤ 1000000000000) : I64 k := by
  show (Lit.int .i64 k).wf = true
  simp [Lit.wf, IntKind.min, IntKind.max, IntKind.signed, IntKind.bits]; omega
theorem mod_any {S : Nat → Prop} {w w' : World} (h : Mod (fun _ => False) w w') : Mod S w w' := h.mono fun _ _ h => h.elim

end Go.Proofs.Ytagiodagbfahpaa
