/- The laws on rarest: steps as they come in; no condition. -/
import Derived.Test.YtegmgflplhpacaaDoorRcC
import Derived.WideKeyPair
import Derived.ProofKit
import Derived.OpenShut
namespace Go.Proofs.YtegmgflplhpacaaDoor
open Go Go.RowKit Go.ChangeShapes Go.WideShapes Go.ChangeAt Go.Deep

/-- A slice of steps that came in. -/
def IsSbs (w : World) (a : Option Addr) (len : Nat) (l : List Sb) : Prop :=
  l.length = len ∧ (len : Int) ≤ 9223372036854775807 ∧ ∀ i t, l[i]? = some t → OkSb w t ∧ ∃ x, a = some x ∧ w.cell? (x.add (i * 5)) = some (.int .i64 t.d) ∧
    w.cell? ⟨(x.add (i * 5)).block, (x.add (i * 5)).off + 1, none⟩ = some (.int .i64 t.p) ∧ w.cell? ⟨(x.add (i * 5)).block, (x.add (i * 5)).off + 2, none⟩ = some (.int .i64 t.n) ∧
    w.cell? ⟨(x.add (i * 5)).block, (x.add (i * 5)).off + 3, none⟩ = some (.slice t.a t.len t.cap) ∧ w.cell? ⟨(x.add (i * 5)).block, (x.add (i * 5)).off + 4, none⟩ = some (.int .u64 t.z)
theorem below_cell {w w' : World} (hb : Below w.heap.size w w') {p : Addr} {v : Value} (h : w.cell? p = some v) : w'.cell? p = some v := by
  have := World.block_lt_of_cell? w p h
  rw [hb.cell (by omega)]; exact h
theorem OkSb.below {w w' : World} {s : Sb} (h : OkSb w s) (hb : Below w.heap.size w w') : OkSb w' s := ⟨h.sl.below hb (Nat.le_refl _), h.by8, h.i⟩
theorem IsSbs.below {w w' : World} {a : Option Addr} {len : Nat} {l : List Sb} (h : IsSbs w a len l) (hb : Below w.heap.size w w') : IsSbs w' a len l :=
  ⟨h.1, h.2.1, fun i t hi => by
    obtain ⟨hk, x, rfl, h0, h1, h2, h3, h4⟩ := h.2.2 i t hi
    exact ⟨hk.below hb, x, rfl, below_cell hb h0, below_cell hb h1, below_cell hb h2, below_cell hb h3, below_cell hb h4⟩⟩
set_option maxRecDepth 100000 in
set_option maxHeartbeats 1000000 in
theorem open_sbs {H : Type} {enc : TypeId × Value → H} {W : World} {base : Nat} {v : Value} {d : DataW H} {p : List MemPlace} (hval : Value.okWide Tryd.prog W .any base 43 v) (h : DataW.Trod enc Tryd.prog W 0 (fun _ => true) true 43 v d p) :
    ∃ a len cap l, v = .slice a len cap ∧ IsSbs W a len l := by
  obtain ⟨a, len, cap, rfl⟩ := okWide_slice Tryd.underlying43 hval
  refine ⟨a, len, cap, ?_⟩
  obtain ⟨fuel, hf⟩ := h
  rcases open_fields Tryd.underlying43 Tryd.underlying45 (by kernel_rfl) (by kernel_rfl) hf with hcs | ⟨x, l, c, m, hcs, hl, hm, hmm, hi⟩
  · simp [Value.cells] at hcs
    obtain ⟨rfl, rfl, rfl⟩ := hcs
    exact ⟨[], rfl, rfl, by decide, fun i t h => by simp at h⟩
  · simp [Value.cells] at hcs
    obtain ⟨rfl, rfl, rfl⟩ := hcs
    have key : ∀ i, i < len → ∃ t : Sb, OkSb W t ∧ W.cell? (x.add (i * 5)) = some (.int .i64 t.d) ∧ W.cell? (x.add (i * 5 + 1)) = some (.int .i64 t.p) ∧ W.cell? (x.add (i * 5 + 2)) = some (.int .i64 t.n) ∧ W.cell? (x.add (i * 5 + 3)) = some (.slice t.a t.len t.cap) ∧ W.cell? (x.add (i * 5 + 4)) = some (.int .u64 t.z) := by
      intro i hi'
      obtain ⟨n, g⟩ := hi i (by rw [hmm]; simp; omega)
      obtain ⟨v0, y0, c0, t0⟩ := g 0 _ rfl
      obtain ⟨v1, y1, c1, t1⟩ := g 1 _ rfl
      obtain ⟨v2, y2, c2, t2⟩ := g 2 _ rfl
      obtain ⟨v3, y3, c3, t3⟩ := g 3 _ rfl
      obtain ⟨v4, y4, c4, t4⟩ := g 4 _ rfl
      obtain ⟨k0, e0, _⟩ := DataW.trod_int Tryd.underlying3 t0
      obtain ⟨k1, e1, _, w1⟩ := DataW.trod_int Tryd.underlying3 t1
      obtain ⟨k2, e2, _⟩ := DataW.trod_int Tryd.underlying3 t2
      obtain ⟨k4, e4, _⟩ := DataW.trod_int Tryd.underlying23 t4
      cases e0; cases e1; cases e2; cases e4
      obtain ⟨sa, sl, sc, bs, rfl, hs, hb⟩ : ∃ sa sl sc bs, v3 = .slice sa sl sc ∧ Sl W (.slice sa sl sc) 1 sl (byts bs) ∧ ∀ x ∈ bs, x < 256 := by
        rcases open_ints Tryd.underlying33 Tryd.underlying5 (by kernel_rfl) t3 with ⟨hcs, _⟩ | ⟨y, l2, c2, zs, hcs, _, hl2, hm2, hz, _, hcell, hwz⟩
        · simp at hcs
          subst hcs
          exact ⟨none, 0, 0, [], rfl, Sl.nil _ _, by simp⟩
        · simp at hcs
          subst hcs
          obtain ⟨bs, hbl, hb, hs⟩ := IsRow.bytes (w := W) (a := some y) (len := l2) (cap := c2) (zs := zs) (.inr ⟨_, rfl, hl2, hm2, by simpa using hz, hcell, hwz⟩)
          exact ⟨some y, l2, c2, bs, rfl, hs, hb⟩
      exact ⟨⟨k0, k1, k2, sa, sl, sc, bs, k4⟩, ⟨hs, hb, w1⟩, c0, c1, c2, c3, c4⟩
    obtain ⟨F, hF⟩ : ∃ F : Nat → Sb, ∀ i, i < len → OkSb W (F i) ∧ W.cell? (x.add (i * 5)) = some (.int .i64 (F i).d) ∧ W.cell? (x.add (i * 5 + 1)) = some (.int .i64 (F i).p) ∧ W.cell? (x.add (i * 5 + 2)) = some (.int .i64 (F i).n) ∧ W.cell? (x.add (i * 5 + 3)) = some (.slice (F i).a (F i).len (F i).cap) ∧ W.cell? (x.add (i * 5 + 4)) = some (.int .u64 (F i).z) := by
      refine ⟨fun i => if h : i < len then (key i h).choose else default, fun i h => ?_⟩
      simp only [h, dif_pos]
      exact (key i h).choose_spec
    refine ⟨(List.range len).map F, rfl, by simp, by unfold maxLen at hm; omega, fun i t ht => ?_⟩
    have hil : i < len := by simpa using (List.getElem?_eq_some_iff.1 ht).1
    rw [List.getElem?_map, List.getElem?_range hil] at ht
    simp at ht
    subst ht
    obtain ⟨gk, g0, g1, g2, g3, g4⟩ := hF i hil
    refine ⟨gk, x, rfl, g0, ?_, ?_, ?_, ?_⟩
    · rw [← Go.Deep.add_add] at g1; exact g1
    · rw [← Go.Deep.add_add] at g2; exact g2
    · rw [← Go.Deep.add_add] at g3; exact g3
    · rw [← Go.Deep.add_add] at g4; exact g4
set_option maxRecDepth 100000 in
set_option maxHeartbeats 1000000 in
theorem open_sb {H : Type} {enc : TypeId × Value → H} {W : World} {base : Nat} {v : Value} {d : DataW H} {p : List MemPlace} (hval : Value.okWide Tryd.prog W .any base 45 v) (hd : DataW.Trod enc Tryd.prog W 0 (fun _ => true) true 45 v d p) :
    ∃ s : Sb, v = .agg (spB s) ∧ OkSb W s := by
  have hK : Tryd.prog.cellsOf 45 = 5 := by kernel_rfl
  have hI : Tryd.prog.cellsOf 3 = 1 := by kernel_rfl
  have hU : Tryd.prog.cellsOf 23 = 1 := by kernel_rfl
  have hS : Tryd.prog.cellsOf 33 = 1 := by kernel_rfl
  obtain ⟨v0, v1, v2, v3, v4, rfl⟩ : ∃ v0 v1 v2 v3 v4, v = .agg #[v0, v1, v2, v3, v4] := by
    simp only [Value.okWide, Tryd.underlying45] at hval
    obtain ⟨cs, h1, h2, _⟩ := hval
    rw [hK] at h2
    obtain ⟨l⟩ := cs
    match l, h2 with
    | [c0, c1, c2, c3, c4], _ => exact ⟨c0, c1, c2, c3, c4, h1⟩
  obtain ⟨fuel, hf⟩ := hd
  obtain ⟨ys, n, _, _, _, hyl, hg⟩ := DataW.trod_struct Tryd.underlying45 hf
  have hyl' : ys.length = 5 := hyl
  have g : ∀ j (h : j < 5), ys[j]? = some (ys[j]'(by omega)) := fun j h => List.getElem?_eq_getElem (by omega)
  have t0 := (hg 0 _ rfl).trans (g 0 (by decide))
  have t1 := (hg 1 _ rfl).trans (g 1 (by decide))
  have t2 := (hg 2 _ rfl).trans (g 2 (by decide))
  have t3 := (hg 3 _ rfl).trans (g 3 (by decide))
  have t4 := (hg 4 _ rfl).trans (g 4 (by decide))
  replace t0 : DataW.trod enc Tryd.prog W 0 (fun _ => true) true n 3 (([v0, v1, v2, v3, v4].drop 0).take (Tryd.prog.cellsOf 3)) = some _ := t0
  replace t1 : DataW.trod enc Tryd.prog W 0 (fun _ => true) true n 3 (([v0, v1, v2, v3, v4].drop 1).take (Tryd.prog.cellsOf 3)) = some _ := t1
  replace t2 : DataW.trod enc Tryd.prog W 0 (fun _ => true) true n 3 (([v0, v1, v2, v3, v4].drop 2).take (Tryd.prog.cellsOf 3)) = some _ := t2
  replace t3 : DataW.trod enc Tryd.prog W 0 (fun _ => true) true n 33 (([v0, v1, v2, v3, v4].drop 3).take (Tryd.prog.cellsOf 33)) = some _ := t3
  replace t4 : DataW.trod enc Tryd.prog W 0 (fun _ => true) true n 23 (([v0, v1, v2, v3, v4].drop 4).take (Tryd.prog.cellsOf 23)) = some _ := t4
  rw [hI] at t0 t1 t2
  rw [hU] at t4
  rw [hS] at t3
  obtain ⟨k0, e0, _⟩ := DataW.trod_int Tryd.underlying3 t0
  obtain ⟨k1, e1, _, w1⟩ := DataW.trod_int Tryd.underlying3 t1
  obtain ⟨k2, e2, _⟩ := DataW.trod_int Tryd.underlying3 t2
  obtain ⟨k4, e4, _⟩ := DataW.trod_int Tryd.underlying23 t4
  simp at e0 e1 e2 e4
  subst e0; subst e1; subst e2; subst e4
  obtain ⟨sa, sl, sc, bs, rfl, hs, hb⟩ : ∃ sa sl sc bs, v3 = .slice sa sl sc ∧ Sl W (.slice sa sl sc) 1 sl (byts bs) ∧ ∀ x ∈ bs, x < 256 := by
    rcases open_ints Tryd.underlying33 Tryd.underlying5 (by kernel_rfl) t3 with ⟨hcs, _⟩ | ⟨y, l2, c2, zs, hcs, _, hl2, hm2, hz, _, hcell, hwz⟩
    · simp at hcs
      subst hcs
      exact ⟨none, 0, 0, [], rfl, Sl.nil _ _, by simp⟩
    · simp at hcs
      subst hcs
      obtain ⟨bs, hbl, hb, hs⟩ := IsRow.bytes (w := W) (a := some y) (len := l2) (cap := c2) (zs := zs) (.inr ⟨_, rfl, hl2, hm2, by simpa using hz, hcell, hwz⟩)
      exact ⟨some y, l2, c2, bs, rfl, hs, hb⟩
  exact ⟨⟨k0, k1, k2, sa, sl, sc, bs, k4⟩, rfl, hs, hb, w1⟩
end Go.Proofs.YtegmgflplhpacaaDoor
