/- 'append' of one element to a slice of the call's own; no condition. -/
import Derived.Test.YtdfdkacnejichaaDoorKit
namespace Go.Proofs.YtdfdkacnejichaaDoor
open Go Go.RowKit

section
variable {P : Program}
/-- 'append(v, u)', v of the call's own (all its rows are new, seen from world W). -/
theorem app1 {W w0 : World} {ops : Array Oper} {rest : List Oper} {o : Oper} {a : Act} {Q : Exit → Act → World → Prop} (hgd : o.guard = none) (s x : Operand) (t e : TypeId)
    (ho : o.op = .call { callee := .builtin .append, args := #[s, x], argTypes := #[t, t] }) (ht : P.underlying t = some (.slice e)) {z : Value} {bytes : Nat} (hi : (P.info? e).map (fun i => (i.zero, i.size, i.bytes)) = some (some z, 1, bytes)) (hzs : z.cells.size = 1)
    (v : Value) (n : Nat) (xs : List Value) (u : Value) (hW : Mod (fun _ => False) W w0) (hown : w0.ownsRow W.heap.size e 1 v n xs) (hs : a.eval s = v) (hx : a.eval x = .slice (some ⟨w0.heap.size, 0, none⟩) 1 1)
    (h1 : u.oneCell' = true) (hb0 : 0 < bytes) (hbytes : (n + 1) * bytes ≤ 140737488355328)
    (h : ∀ v' w', w'.ownsRow W.heap.size e 1 v' (n + 1) (xs ++ [u]) → Mod (fun _ => False) W w' → wpList P ops Q rest (a.put o.dst v') w') : wpList P ops Q (o :: rest) a (w0.alloc (.cells #[u] e)) := by
  obtain ⟨i0, hi, hz0, hz1, hz2⟩ := info_parts hi
  have h63 : n + 1 ≤ maxLen := by
    have : n + 1 ≤ (n + 1) * bytes := Nat.le_mul_of_pos_right _ hb0
    unfold maxLen; omega
  have hsz := hW.size
  refine wpList_append_own _ hgd s x t ho W.heap.size e i0 z 1 bytes ht hi hz0 hz1 hz2 hzs (by decide) v n xs hs (hown.alloc _) ⟨w0.heap.size, 0, none⟩ 1 1 [u] hx rfl (fun j y hj => ?_) (fun y hy => by simp at hy; subst hy; exact h1) h63 hbytes (by simp; omega) fun v' w' h2 h3 _ => h v' w' h2 ?_
  · cases j with
    | zero =>
      simp at hj
      subst hj
      simp [Addr.add]
    | succ j => simp at hj
  · refine ((hW.alloc _).grown h3 fun k hk => .inr (hown.lt k hk).1)
end
end Go.Proofs.YtdfdkacnejichaaDoor
