/- 'append' of one struct of several cells to a slice of the call's own; no condition. -/
import Derived.Test.YtdlplablojdjlaaKit
namespace Go.Proofs.Ytdlplablojdjlaa
open Go Go.RowKit

section
variable {P : Program}
/-- 'append(v, u)', u a struct of the cells cs, v of the call's own (all its rows are new, seen from world W). -/
theorem appK {S : Nat → Prop} {W w0 : World} {ops : Array Oper} {rest : List Oper} {o : Oper} {a : Act} {Q : Exit → Act → World → Prop} (hgd : o.guard = none) (s x : Operand) (t e : TypeId) (size : Nat)
    (ho : o.op = .call { callee := .builtin .append, args := #[s, x], argTypes := #[t, t] }) (ht : P.underlying t = some (.slice e)) {z : Value} {bytes : Nat} (hi : (P.info? e).map (fun i => (i.zero, i.size, i.bytes)) = some (some z, size, bytes)) (hzs : z.cells.size = size) (h0 : 0 < size)
    (v : Value) (n : Nat) (xs : List Value) (cs : Array Value) (hcs : cs.size = size) (hW : Mod S W w0) (hown : w0.ownsRow W.heap.size e size v n xs) (hs : a.eval s = v) (hx : a.eval x = .slice (some ⟨w0.heap.size, 0, none⟩) 1 1)
    (h1 : ∀ u ∈ cs.toList, u.oneCell' = true) (hb0 : 0 < bytes) (hbytes : (n + 1) * bytes ≤ 140737488355328)
    (h : ∀ v' w', w'.ownsRow W.heap.size e size v' (n + 1) (xs ++ cs.toList) → Mod S W w' → Mod (fun i => W.heap.size ≤ i) w0 w' → wpList P ops Q rest (a.put o.dst v') w') : wpList P ops Q (o :: rest) a (w0.alloc (.cells cs e)) := by
  obtain ⟨i0, hi, hz0, hz1, hz2⟩ := info_parts hi
  have h63 : n + 1 ≤ maxLen := by
    have : n + 1 ≤ (n + 1) * bytes := Nat.le_mul_of_pos_right _ hb0
    unfold maxLen; omega
  have hsz := hW.size
  refine wpList_append_own _ hgd s x t ho W.heap.size e i0 z size bytes ht hi hz0 hz1 hz2 hzs h0 v n xs hs (hown.alloc _) ⟨w0.heap.size, 0, none⟩ 1 1 cs.toList hx (by simp [hcs]) (fun j y hj => ?_) h1 h63 hbytes (by simp; omega) fun v' w' h2 h3 _ => h v' w' h2 ?_ (((Mod.refl _ w0).alloc _).grown h3 fun k hk => .inl (hown.lt k hk).1)
  · have hc : cs[j]? = some y := by simpa using hj
    have hb := ((Blk.new w0 cs e).cell j).trans hc
    cases j with
    | zero => exact hb
    | succ j => simpa [Addr.add] using hb
  · exact ((hW.alloc _).grown h3 fun k hk => .inr (hown.lt k hk).1)
/-- 'append(v, sv...)', v of the call's own from block 'base' on. -/
theorem appS {w : World} {base : Nat} {ops : Array Oper} {rest : List Oper} {o : Oper} {a : Act} {Q : Exit → Act → World → Prop} (hgd : o.guard = none) (s x : Operand) (t e : TypeId) (size : Nat)
    (ho : o.op = .call { callee := .builtin .append, args := #[s, x], argTypes := #[t, t] }) (ht : P.underlying t = some (.slice e)) {z : Value} {bytes : Nat} (hi : (P.info? e).map (fun i => (i.zero, i.size, i.bytes)) = some (some z, size, bytes)) (hzs : z.cells.size = size) (h0 : 0 < size)
    (v : Value) (n : Nat) (xs : List Value) (sv : Value) (m : Nat) (news : List Value) (hbase : base ≤ w.heap.size) (hown : w.ownsRow base e size v n xs) (hs : a.eval s = v) (hx : a.eval x = sv) (hnews : Sl w sv size m news)
    (h1 : ∀ u ∈ news, u.oneCell' = true) (hb0 : 0 < bytes) (hbytes : (n + m) * bytes ≤ 140737488355328)
    (h : ∀ v' w', w'.ownsRow base e size v' (n + m) (xs ++ news) → Mod (fun i => base ≤ i) w w' → wpList P ops Q rest (a.put o.dst v') w') : wpList P ops Q (o :: rest) a w := by
  obtain ⟨i0, hi, hz0, hz1, hz2⟩ := info_parts hi
  exact wpList_append_sl hgd s x t ho base e i0 z size bytes ht hi hz0 hz1 hz2 hzs h0 v n xs hs hown sv m news hx hnews h1 hbytes hb0 hbase fun v' w' h2 h3 => h v' w' h2 ((Mod.refl _ w).grown h3 fun k hk => .inl (hown.lt k hk).1)
end
end Go.Proofs.Ytdlplablojdjlaa
