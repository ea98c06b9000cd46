/- The laws on members: lists of members as they come in; no condition. -/
import Derived.Test.YtagiodagbfahpaaMcB
import Derived.Test.YtagiodagbfahpaaOpen
import Derived.Lib.SmallJoins
import Derived.WideKeyPair
import Derived.ProofKit
import Derived.OpenShut
namespace Go.Proofs.Ytagiodagbfahpaa
open Go Go.RowKit Go.ChangeShapes Go.WideShapes Go.ChangeAt Go.Deep

/-- A slice of members that came in. -/
def IsMems (w : World) (a : Option Addr) (len : Nat) (l : List (Int × Rc)) : Prop :=
  l.length = len ∧ (len : Int) ≤ 9223372036854775807 ∧ ∀ i t, l[i]? = some t → I64 t.1 ∧ ∃ x, a = some x ∧ w.cell? (x.add (i * 4)) = some (.int .i64 t.1) ∧ w.cell? ⟨(x.add (i * 4)).block, (x.add (i * 4)).off + 1, none⟩ = some (.int .i64 t.2.s) ∧ w.cell? ⟨(x.add (i * 4)).block, (x.add (i * 4)).off + 2, none⟩ = some (.int .i64 t.2.u) ∧ w.cell? ⟨(x.add (i * 4)).block, (x.add (i * 4)).off + 3, none⟩ = some (.int .i64 t.2.b)
theorem IsMems.new {w w' : World} {a : Option Addr} {len : Nat} {l : List (Int × Rc)} (h : IsMems w a len l) (hm : Mod (fun _ => False) w w') : IsMems w' a len l :=
  ⟨h.1, h.2.1, fun i t hi => by
    obtain ⟨hk, x, rfl, h0, h1, h2, h3⟩ := h.2.2 i t hi
    exact ⟨hk, x, rfl, hm.cell h0 (fun h => h), hm.cell h1 (fun h => h), hm.cell h2 (fun h => h), hm.cell h3 (fun h => h)⟩⟩
set_option maxRecDepth 100000 in
theorem open_mems {H : Type} {enc : TypeId × Value → H} {W : World} {base : Nat} {v : Value} {d : DataW H} {p : List MemPlace} (hval : Value.okWide Try.prog W .any base 22 v) (h : DataW.Trod enc Try.prog W 0 (fun _ => true) true 22 v d p) :
    ∃ a len cap l, v = .slice a len cap ∧ IsMems W a len l := by
  obtain ⟨a, len, cap, rfl⟩ := okWide_slice Try.underlying22 hval
  refine ⟨a, len, cap, ?_⟩
  obtain ⟨fuel, hf⟩ := h
  rcases open_fields Try.underlying22 Try.underlying29 (by kernel_rfl) (by kernel_rfl) hf with hcs | ⟨x, l, c, m, hcs, hl, hm, hmm, hi⟩
  · simp [Value.cells] at hcs
    obtain ⟨rfl, rfl, rfl⟩ := hcs
    exact ⟨[], rfl, rfl, by decide, fun i t h => by simp at h⟩
  · simp [Value.cells] at hcs
    obtain ⟨rfl, rfl, rfl⟩ := hcs
    have key : ∀ i, i < len → ∃ t : Int × Rc, I64 t.1 ∧ W.cell? (x.add (i * 4)) = some (.int .i64 t.1) ∧ W.cell? (x.add (i * 4 + 1)) = some (.int .i64 t.2.s) ∧ W.cell? (x.add (i * 4 + 2)) = some (.int .i64 t.2.u) ∧ W.cell? (x.add (i * 4 + 3)) = some (.int .i64 t.2.b) := by
      intro i hi'
      obtain ⟨n, g⟩ := hi i (by rw [hmm]; simp; omega)
      obtain ⟨v0, y0, c0, t0⟩ := g 0 _ rfl
      obtain ⟨v1, y1, c1, t1⟩ := g 1 _ rfl
      obtain ⟨v2, y2, c2, t2⟩ := g 2 _ rfl
      obtain ⟨v3, y3, c3, t3⟩ := g 3 _ rfl
      obtain ⟨k0, e0, _, w0⟩ := DataW.trod_int Try.underlying3 t0
      obtain ⟨k1, e1, _⟩ := DataW.trod_int Try.underlying3 t1
      obtain ⟨k2, e2, _⟩ := DataW.trod_int Try.underlying3 t2
      obtain ⟨k3, e3, _⟩ := DataW.trod_int Try.underlying3 t3
      cases e0; cases e1; cases e2; cases e3
      exact ⟨(k0, ⟨k1, k2, k3⟩), w0, c0, c1, c2, c3⟩
    obtain ⟨F, hF⟩ : ∃ F : Nat → Int × Rc, ∀ i, i < len → I64 (F i).1 ∧ W.cell? (x.add (i * 4)) = some (.int .i64 (F i).1) ∧ W.cell? (x.add (i * 4 + 1)) = some (.int .i64 (F i).2.s) ∧ W.cell? (x.add (i * 4 + 2)) = some (.int .i64 (F i).2.u) ∧ W.cell? (x.add (i * 4 + 3)) = some (.int .i64 (F i).2.b) := by
      refine ⟨fun i => if h : i < len then (key i h).choose else (0, ⟨0, 0, 0⟩), fun i h => ?_⟩
      simp only [h, dif_pos]
      exact (key i h).choose_spec
    refine ⟨(List.range len).map F, rfl, by simp, by unfold maxLen at hm; omega, fun i t ht => ?_⟩
    have hil : i < len := by simpa using (List.getElem?_eq_some_iff.1 ht).1
    rw [List.getElem?_map, List.getElem?_range hil] at ht
    simp at ht
    subst ht
    obtain ⟨gk, g0, g1, g2, g3⟩ := hF i hil
    refine ⟨gk, x, rfl, g0, ?_, ?_, ?_⟩
    · rw [← Go.Deep.add_add] at g1; exact g1
    · rw [← Go.Deep.add_add] at g2; exact g2
    · rw [← Go.Deep.add_add] at g3; exact g3
theorem owns_new {w w' : World} {base : Nat} {e : TypeId} {size : Nat} {v : Value} {n : Nat} {xs : List Value} (h : w.ownsRow base e size v n xs) (hm : Mod (fun _ => False) w w') : w'.ownsRow base e size v n xs := owns_modG h hm fun _ _ h => h
theorem Mod.bel {w w' : World} (h : Mod (fun _ => False) w w') : Below w.heap.size w w' := h.below (Nat.le_refl _) (fun _ h => h.elim)
end Go.Proofs.Ytagiodagbfahpaa
