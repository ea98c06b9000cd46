/- 'for k, v := range m' over a map with int keys: what is yet to come, as a list; no condition. -/
import Derived.Test.YtfopglaagnbacaaDoorMapL
import Derived.Maps.RangeWalk
namespace Go.Proofs.YtfopglaagnbacaaDoor
open Go Go.RowKit

/-- Under way over map b, by iterator r: of the pairs l those of 'todo' are yet to come. -/
structure IRange (P : Program) (K : TypeId) (w : World) (b r : Nat) (l todo : List (Int × Value)) : Prop where
  rising : Rising l
  run : ∃ left cnt, w.ranges P K RV b r l.length (toD l) left cnt ∧ todo = l.filter fun p => left (.int .i64 p.1)
section
variable {P : Program} {K T E : TypeId} {w : World} {b r : Nat} {l todo : List (Int × Value)}
theorem IRange.map (h : IRange P K w b r l todo) : IMap P K w b l := by
  obtain ⟨left, cnt, h1, _⟩ := h.run
  exact ⟨h.rising, h1.owns⟩
theorem IRange.mod {S : Nat → Prop} {w' : World} (h : IRange P K w b r l todo) (hm : Mod S w w') (hb : ¬ S b) (hr : ¬ S r) : IRange P K w' b r l todo := by
  obtain ⟨left, cnt, h1, h2⟩ := h.run
  refine ⟨h.rising, left, cnt, ?_, h2⟩
  obtain ⟨es, clock, since, seen, c0, g1, g2, g3, g4, g5, g6⟩ := h1
  exact ⟨es, clock, since, seen, c0, hm.heap g1 hb, g2, g3, g4, hm.heap g5 hr, g6⟩
theorem IRange.new {w' : World} (h : IRange P K w b r l todo) (hm : Mod (fun _ => False) w w') : IRange P K w' b r l todo := h.mod hm (fun h => h) (fun h => h)
theorem IRange.left {w' : World} (h : IRange P K w b r l todo) (hm : Mod (fun _ => False) w w') : w'.rangeLeft b r = w.rangeLeft b r := by
  obtain ⟨left, cnt, h1, _⟩ := h.run
  obtain ⟨es, clock, since, seen, c0, g1, _, _, _, g5, _⟩ := h1
  unfold World.rangeLeft
  rw [hm.heap g1 (fun h => h), hm.heap g5 (fun h => h), g1, g5]
theorem sameKey_int (a k : Int) : (Lit.int .i64 a).sameKey (.int .i64 k) = decide (a = k) := by
  simp [Lit.sameKey]

variable {ops : Array Oper} {rest : List Oper} {o : Oper} {a : Act} {Q : Exit → Act → World → Prop}
theorem range_start (hg : o.guard = none) (m : Operand) (hop : o.op = Op.range T m) (hK : P.underlying K = some (.int .i64)) (hT : P.underlying T = some (.map K E)) (hm : a.eval m = .map (some b)) (h : IMap P K w b l)
    (hN : ∀ w', IRange P K w' b w.heap.size l l → Mod (fun _ => False) w w' → w'.heap.size = w.heap.size + 1 → wpList P ops Q rest (a.put o.dst (.pointer (some ⟨w.heap.size, 0, none⟩))) w') : wpList P ops Q (o :: rest) a w := by
  refine wpList_range_own w hg m T hop K E (Maps.int_keyed hK) hT RV b _ _ hm h.owns fun w' h1 h2 h3 => hN w' ⟨h.rising, _, _, h1, ?_⟩ ⟨h2.os, h2.tape, h2.output, h2.size, fun k hk _ => h2.block k hk (by simp)⟩ h3
  symm
  rw [List.filter_eq_self]
  intro p hp
  rw [has_toD, lk_of_mem h.rising (k := p.1) (v := p.2) hp]
  rfl
theorem range_next (hg : o.guard = none) (it : Operand) (hop : o.op = Op.next it false) (hK : P.underlying K = some (.int .i64)) (hit : a.eval it = .pointer (some ⟨r, 0, none⟩)) (h : IRange P K w b r l todo)
    (hDone : todo = [] → wpList P ops Q rest (a.put o.dst (.tuple #[.bool false])) w)
    (hMore : ∀ (x : Int) (c : Value) (w' : World), I64 x → (x, c) ∈ todo → (x, c) ∈ l → IRange P K w' b r l (delL todo x) → w'.rangeLeft b r < w.rangeLeft b r → Mod (· = r) w w' → w'.heap.size = w.heap.size →
      (Instr.entry (.pointer (some ⟨r, 0, none⟩))).run P w' = .ok (.tuple #[.int .i64 x, c]) w' → wpList P ops Q rest (a.put o.dst (.tuple #[.bool true, .int .i64 x, c])) w') : wpList P ops Q (o :: rest) a w := by
  obtain ⟨left, cnt, h1, h2⟩ := h.run
  refine wpList_next_ranges w hg it hop K (Maps.int_keyed hK) RV (Value.int .i64) id (fun key kl hk => by obtain ⟨x, hx, _⟩ := Maps.keyOf_int_inv hK hk; exact ⟨x, hx⟩) (fun v _ _ => ⟨v, rfl⟩) b r _ _ left cnt hit h1 (fun _ hl => hDone (by rw [h2, List.filter_eq_nil_iff]; intro p _; simp [hl])) ?_
  intro x c kl y w' cnt' hkey hlk hv hat hrg hlt hgr hsz hen
  obtain ⟨x', ex, rfl, hwf⟩ := Maps.keyOf_int_inv hK hkey
  cases ex
  cases hv
  have hlk2 : lkL l x = some c := by
    cases hf : lkL l x with
    | some v =>
      have := hat (.held c)
      rw [atKey_toD, hf] at this
      simpa using this
    | none =>
      exfalso
      have e1 := hat (.held (.bool true))
      have e2 := hat (.held (.bool false))
      rw [atKey_toD, hf] at e1 e2
      simp only [Option.getD_none] at e1 e2
      rw [← e2] at e1
      simp at e1
  have hml := lk_some_mem hlk2
  refine hMore x c w' hwf ?_ hml ⟨h.rising, _, _, hrg, ?_⟩ (by rw [hrg.left_eq, h1.left_eq]; exact hlt) ⟨hgr.os, hgr.tape, hgr.output, hgr.size, fun k hk hs => hgr.block k hk (fun e => hs (Option.some.inj e))⟩ hsz hen
  · rw [h2, List.mem_filter]
    exact ⟨hml, hlk⟩
  · rw [h2]
    unfold delL
    rw [List.filter_filter]
    apply List.filter_congr
    intro p _
    rw [sameKey_int, Bool.and_comm]
    simp
end
end Go.Proofs.YtfopglaagnbacaaDoor
