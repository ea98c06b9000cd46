/- Words for what a call leaves of memory, and small facts on cells and rows; no condition. -/
import Derived.WalkKit
import Derived.WalkSpells
import Derived.WalkLawsBesides
import Derived.Lib.Hide
import Derived.Deep.Draws
import Derived.Laws.AppendOwnNone
namespace Go.Proofs.Ytdlplablojdjlaa
open Go.RowKit

/-- Of the blocks that were there only those of S may have turned; the streams are as they were; no block has gone. -/
structure Mod (S : Nat → Prop) (w w' : World) : Prop where
  os : w'.os = w.os
  tape : w'.tape = w.tape
  output : w'.output = w.output
  size : w.heap.size ≤ w'.heap.size
  block : ∀ k, k < w.heap.size → ¬ S k → w'.heap[k]? = w.heap[k]?

theorem Mod.refl (S : Nat → Prop) (w : World) : Mod S w w := ⟨rfl, rfl, rfl, Nat.le_refl _, fun _ _ _ => rfl⟩
theorem Mod.trans {S : Nat → Prop} {a b c : World} (h : Mod S a b) (k : Mod S b c) : Mod S a c :=
  ⟨k.os.trans h.os, k.tape.trans h.tape, k.output.trans h.output, Nat.le_trans h.size k.size, fun i hi hs => (k.block i (Nat.lt_of_lt_of_le hi h.size) hs).trans (h.block i hi hs)⟩
theorem Mod.mono {S S' : Nat → Prop} {w w' : World} (h : Mod S w w') (hS : ∀ k, k < w.heap.size → S k → S' k) : Mod S' w w' :=
  ⟨h.os, h.tape, h.output, h.size, fun k hk hn => h.block k hk fun hs => hn (hS k hk hs)⟩
/-- .. of blocks that were not there. -/
theorem Mod.new {S : Nat → Prop} {w a b : World} (h : Mod (fun _ => False) w a) (k : Mod S a b) (hS : ∀ i, S i → w.heap.size ≤ i) : Mod (fun _ => False) w b :=
  ⟨k.os.trans h.os, k.tape.trans h.tape, k.output.trans h.output, Nat.le_trans h.size k.size, fun i hi hs => (k.block i (Nat.lt_of_lt_of_le hi h.size) (fun e => by have := hS i e; omega)).trans (h.block i hi hs)⟩
theorem Mod.of_below {S : Nat → Prop} {w w' : World} (h : Below w.heap.size w w') : Mod S w w' := ⟨h.os, h.tape, h.output, h.size, fun k hk _ => h.block k hk⟩
theorem Mod.below {S : Nat → Prop} {B : Nat} {w w' : World} (h : Mod S w w') (hB : B ≤ w.heap.size) (hS : ∀ k, S k → B ≤ k) : Below B w w' :=
  ⟨h.os, h.tape, h.output, h.size, fun k hk => h.block k (by omega) fun hs => by have := hS k hs; omega⟩
/-- Behind a call that leaves 'Mod': what the world was below B it is. -/
theorem below_mod {S : Nat → Prop} {B : Nat} {a w w' : World} (h : Below B a w) (hB : B ≤ w.heap.size) (hm : Mod S w w') (hS : ∀ k, S k → B ≤ k) : Below B a w' := h.trans (hm.below hB hS)
theorem Mod.alloc {S : Nat → Prop} {a w : World} (h : Mod S a w) (o : Obj) : Mod S a (w.alloc o) :=
  h.trans ⟨rfl, rfl, rfl, by simp, fun k hk _ => Below.heap_alloc _ _ _ hk⟩
theorem Mod.setCell {S : Nat → Prop} {a w : World} (h : Mod S a w) {p : Addr} (hp : S p.block ∨ a.heap.size ≤ p.block) (u : Value) : Mod S a (w.setCell p u) :=
  ⟨h.os, h.tape, h.output, Nat.le_trans h.size (by simp [World.setCell]), fun k hk hs => (Below.heap_setCell _ _ _ _ (fun e => by subst e; rcases hp with hp | hp; exact hs hp; omega)).trans (h.block k hk hs)⟩
theorem Mod.drewN {S : Nat → Prop} {a w : World} (h : Mod S a w) (n : Nat) : Mod S a (w.drewN n) := ⟨h.os, h.tape, h.output, h.size, h.block⟩
theorem Mod.drew {S : Nat → Prop} {a w : World} (h : Mod S a w) : Mod S a w.drew := ⟨h.os, h.tape, h.output, h.size, h.block⟩
theorem Mod.cell {S : Nat → Prop} {w w' : World} (h : Mod S w w') {p : Addr} {v : Value} (hc : w.cell? p = some v) (hp : ¬ S p.block) : w'.cell? p = some v :=
  (World.cell?_of_block (w := w) (h.block p.block (World.block_lt_of_cell? w p hc) hp)).trans hc
theorem Mod.frozen {S : Nat → Prop} {w w' : World} (h : Mod S w w') {p : Addr} (hl : p.block < w.heap.size) (hp : ¬ S p.block) : w'.frozen? p = w.frozen? p :=
  World.frozen?_of_block (w := w) (h.block p.block hl hp)
theorem Mod.heap {S : Nat → Prop} {w w' : World} (h : Mod S w w') {b : Nat} {o : Obj} (hc : w.heap[b]? = some o) (hp : ¬ S b) : w'.heap[b]? = some o :=
  (h.block b (Array.getElem?_eq_some_iff.1 hc).1 hp).trans hc

/-- A block that is known whole: cells 'cs' of type t, none frozen. -/
abbrev Blk (w : World) (b : Nat) (cs : Array Value) (t : TypeId) : Prop := w.heap[b]? = some (.cells cs t (0, 0))
theorem Blk.cell {w : World} {b : Nat} {cs : Array Value} {t : TypeId} (h : Blk w b cs t) (j : Nat) : w.cell? ⟨b, j, none⟩ = cs[j]? := by
  simp [World.cell?, h]
theorem Blk.frozen {w : World} {b : Nat} {cs : Array Value} {t : TypeId} (h : Blk w b cs t) (j : Nat) : w.frozen? ⟨b, j, none⟩ = false := by
  simp [World.frozen?, h]
theorem Blk.lt {w : World} {b : Nat} {cs : Array Value} {t : TypeId} (h : Blk w b cs t) : b < w.heap.size := (Array.getElem?_eq_some_iff.1 h).1
theorem Blk.set {w : World} {b : Nat} {cs : Array Value} {t : TypeId} (h : Blk w b cs t) (j : Nat) (v : Value) : Blk (w.setCell ⟨b, j, none⟩ v) b (cs.setIfInBounds j v) t := by
  simp [Blk, World.setCell, Array.getElem?_modify, h]
theorem Blk.setOther {w : World} {b : Nat} {cs : Array Value} {t : TypeId} (h : Blk w b cs t) {p : Addr} (hp : p.block ≠ b) (v : Value) : Blk (w.setCell p v) b cs t := by
  rw [Blk, Below.heap_setCell _ _ _ _ (Ne.symm hp)]; exact h
theorem Blk.alloc {w : World} {b : Nat} {cs : Array Value} {t : TypeId} (h : Blk w b cs t) (o : Obj) : Blk (w.alloc o) b cs t := by
  rw [Blk, Below.heap_alloc _ _ _ h.lt]; exact h
theorem Blk.new (w : World) (cs : Array Value) (t : TypeId) : Blk (w.alloc (.cells cs t)) w.heap.size cs t := heap_alloc_new w _
theorem Blk.drewN {w : World} {b : Nat} {cs : Array Value} {t : TypeId} (h : Blk w b cs t) (n : Nat) : Blk (w.drewN n) b cs t := h
theorem Blk.drew {w : World} {b : Nat} {cs : Array Value} {t : TypeId} (h : Blk w b cs t) : Blk w.drew b cs t := h
theorem Blk.mod {S : Nat → Prop} {w w' : World} {b : Nat} {cs : Array Value} {t : TypeId} (h : Blk w b cs t) (hm : Mod S w w') (hp : ¬ S b) : Blk w' b cs t := hm.heap h hp
theorem Blk.below {B : Nat} {w w' : World} {b : Nat} {cs : Array Value} {t : TypeId} (h : Blk w b cs t) (hm : Below B w w') (hp : b < B) : Blk w' b cs t := (hm.block b hp).trans h

/-- WHAT THE WALK IS TOLD OF A SLICE OF INTEGERS THAT CAME IN: it is nil; or it leads to a row of 'cap' cells, the numbers 'zs' (the first 'len' are its elements, the rest its spare room), each fitting its kind. -/
def IsRow (k : IntKind) (w : World) (a : Option Addr) (len cap : Nat) (zs : List Int) : Prop :=
  (a = none ∧ len = 0 ∧ cap = 0 ∧ zs = []) ∨
  ∃ x, a = some x ∧ len ≤ cap ∧ cap ≤ maxLen ∧ zs.length = cap ∧ (∀ i, i < zs.length → w.cell? (x.add i) = some (.int k (zs.getD i 0))) ∧ ∀ n ∈ zs, (Lit.int k n).wf = true

/-- A slice of n elements of 'size' cells each: nil, or its address and the cells behind it. -/
def Sl (w : World) (v : Value) (size n : Nat) (xs : List Value) : Prop :=
  (v = .slice none 0 0 ∧ n = 0 ∧ xs = []) ∨ ∃ x c, v = .slice (some x) n c ∧ xs.length = n * size ∧ ∀ j u, xs[j]? = some u → w.cell? (x.add j) = some u
theorem Sl.nil (w : World) (size : Nat) : Sl w (.slice none 0 0) size 0 [] := .inl ⟨rfl, rfl, rfl⟩
theorem Addr.add_block (x : Addr) (j : Nat) : (x.add j).block = x.block := by unfold Addr.add; split <;> rfl
theorem Sl.len {w : World} {v : Value} {size n : Nat} {xs : List Value} (h : Sl w v size n xs) : xs.length = n * size := by
  rcases h with ⟨_, rfl, rfl⟩ | ⟨_, _, _, h, _⟩
  · simp
  · exact h
theorem Sl.keep {w w' : World} {v : Value} {size n : Nat} {xs : List Value} (h : Sl w v size n xs) (hm : ∀ p u, w.cell? p = some u → (∀ x n c, v = .slice (some x) n c → p.block = x.block) → w'.cell? p = some u) : Sl w' v size n xs := by
  rcases h with ⟨h1, h2, h3⟩ | ⟨x, c, rfl, h1, h2⟩
  · exact .inl ⟨h1, h2, h3⟩
  · refine .inr ⟨x, c, rfl, h1, fun j u hj => hm _ u (h2 j u hj) fun y n d hy => ?_⟩
    simp only [Value.slice.injEq, Option.some.injEq] at hy
    rw [Addr.add_block, hy.1]
theorem Sl.mod {S : Nat → Prop} {w w' : World} {v : Value} {size n : Nat} {xs : List Value} (h : Sl w v size n xs) (hm : Mod S w w') (hS : ∀ x n c, v = .slice (some x) n c → ¬ S x.block) : Sl w' v size n xs := by
  rcases h with ⟨h1, h2, h3⟩ | ⟨x, c, rfl, h1, h2⟩
  · exact .inl ⟨h1, h2, h3⟩
  · exact .inr ⟨x, c, rfl, h1, fun j u hj => hm.cell (h2 j u hj) (by rw [Addr.add_block]; exact hS x _ c rfl)⟩
theorem Sl.alloc {w : World} {v : Value} {size n : Nat} {xs : List Value} (h : Sl w v size n xs) (o : Obj) : Sl (w.alloc o) v size n xs :=
  h.mod (S := fun _ => False) ((Mod.refl _ _).alloc o) fun _ _ _ _ h => h
theorem Sl.drewN {w : World} {v : Value} {size n : Nat} {xs : List Value} (h : Sl w v size n xs) (k : Nat) : Sl (w.drewN k) v size n xs := h
theorem Sl.below {B : Nat} {w w' : World} {v : Value} {size n : Nat} {xs : List Value} (h : Sl w v size n xs) (hb : Below B w w') (hB : w.heap.size ≤ B) : Sl w' v size n xs := by
  refine h.keep fun p u hp _ => ?_
  have := World.block_lt_of_cell? w p hp
  rw [hb.cell (by omega)]; exact hp
theorem _root_.Go.World.ownsRow.sl {w : World} {base : Nat} {e : TypeId} {size : Nat} {v : Value} {n : Nat} {xs : List Value} (h : w.ownsRow base e size v n xs) : Sl w v size n xs := by
  rcases h.2 with ⟨h1, h2⟩ | ⟨g, cap, cur, rfl, hg, hh, h1, h2, h3, h4⟩
  · refine .inl ⟨h1, h2, ?_⟩
    have := h.1
    rw [h2, Nat.zero_mul] at this
    exact List.length_eq_zero_iff.1 this
  · refine .inr ⟨_, _, rfl, h.1, fun j u hj => ?_⟩
    have hlt := (List.getElem?_eq_some_iff.1 hj).1
    have e := h.cellAt j (by rw [← h.1]; exact hlt)
    rw [hj] at e
    unfold Addr.add
    split
    · rename_i h0; subst h0; exact e
    · simpa using e

theorem _root_.Go.World.ownsRow.blk {w : World} {base : Nat} {e : TypeId} {size : Nat} {v : Value} {n : Nat} {xs : List Value} (h : w.ownsRow base e size v n xs) : ∀ x m c, v = .slice (some x) m c → base ≤ x.block ∧ x.block < w.heap.size := by
  intro x m c hv
  exact h.lt x.block (by rw [hv]; rfl)
theorem IsRow.sl {k : IntKind} {w : World} {a : Option Addr} {len cap : Nat} {zs : List Int} (h : IsRow k w a len cap zs) : Sl w (.slice a len cap) 1 len ((zs.take len).map (Value.int k)) := by
  rcases h with ⟨rfl, rfl, rfl, rfl⟩ | ⟨x, rfl, hl, _, hz, hc, _⟩
  · exact .inl ⟨rfl, rfl, rfl⟩
  · refine .inr ⟨x, cap, rfl, by simp; omega, fun j u hj => ?_⟩
    have hlt := (List.getElem?_eq_some_iff.1 hj).1
    simp at hlt
    rw [hc j (by omega), List.getD_eq_getElem?_getD, List.getElem?_eq_getElem (by omega)]
    rw [List.getElem?_map, List.getElem?_take, if_pos (by omega), List.getElem?_eq_getElem (by omega)] at hj
    exact hj

section
variable {P : Program} {w : World}
/-- 'append(v, sv...)' on a slice of the call's own, whatever is appended. -/
theorem wpList_append_sl {ops : Array Oper} {rest : List Oper} {o : Oper} {a : Act} {Q : Exit → Act → World → Prop} (hgd : o.guard = none) (s x : Operand) (t : TypeId)
    (ho : o.op = .call { callee := .builtin .append, args := #[s, x], argTypes := #[t, t] })
    (base : Nat) (e : TypeId) (i : TypeInfo) (z : Value) (size bytes : Nat) (ht : P.underlying t = some (.slice e)) (hi : P.info? e = some i) (hz : i.zero = some z)
    (hsize : i.size = size) (hby : i.bytes = bytes) (hzs : z.cells.size = size) (hsz : 0 < size)
    (v : Value) (n : Nat) (xs : List Value) (hs : a.eval s = v) (hown : w.ownsRow base e size v n xs)
    (sv : Value) (m : Nat) (news : List Value) (hx : a.eval x = sv) (hnews : Sl w sv size m news) (h1 : ∀ u ∈ news, u.oneCell' = true)
    (hbytes : (n + m) * bytes ≤ 140737488355328) (hb0 : 0 < bytes) (hbase : base ≤ w.heap.size)
    (h : ∀ v' w', w'.ownsRow base e size v' (n + m) (xs ++ news) → w.grownBy w' v.ownBlock → wpList P ops Q rest (a.put o.dst v') w') : wpList P ops Q (o :: rest) a w := by
  rcases hnews with ⟨rfl, rfl, rfl⟩ | ⟨ad, c, rfl, hl, hc⟩
  · exact wpList_append_own_none hgd s x t ho base e i size ht hi v n xs hs hown hx (h v w (by simpa using hown) ⟨rfl, rfl, rfl, Nat.le_refl _, fun _ _ _ => rfl⟩)
  · have h63 : n + m ≤ maxLen := by
      have : n + m ≤ (n + m) * bytes := Nat.le_mul_of_pos_right _ hb0
      unfold maxLen; omega
    exact wpList_append_own w hgd s x t ho base e i z size bytes ht hi hz hsize hby hzs hsz v n xs hs hown ad m c news hx hl hc h1 h63 hbytes hbase fun v' w' h2 h3 _ => h v' w' h2 h3
end
theorem Mod.grown {S : Nat → Prop} {a w w' : World} {row : Option Nat} (h : Mod S a w) (hg : w.grownBy w' row) (hr : ∀ k, row = some k → S k ∨ a.heap.size ≤ k) : Mod S a w' :=
  ⟨hg.os.trans h.os, hg.tape.trans h.tape, hg.output.trans h.output, Nat.le_trans h.size hg.size, fun k hk hs => by
    have hne : some k ≠ row := fun e => by
      rcases hr k e.symm with h1 | h1
      · exact hs h1
      · omega
    rw [hg.block k (Nat.lt_of_lt_of_le hk h.size) hne]
    exact h.block k hk hs⟩

/-- Integers' range. -/
theorem i64_bd {n : Int} (h : (Lit.int .i64 n).wf = true) : -9223372036854775808 ≤ n ∧ n ≤ 9223372036854775807 := by
  simpa [Lit.wf, IntKind.min, IntKind.max, IntKind.signed, IntKind.bits] using h
end Go.Proofs.Ytdlplablojdjlaa
