/- The laws on member: steps as they come in; no condition. -/
import Derived.Test.YtagiodagbfahpaaSnC
import Derived.Test.YtagiodagbfahpaaMcO
namespace Go.Proofs.Ytagiodagbfahpaa
open Go Go.RowKit Go.ChangeShapes Go.WideShapes Go.ChangeAt Go.Deep

section
variable {H : Type} {enc : TypeId × Value → H} {P : Program} {w : World} {base : Nat} {spare : Nat → Bool} {held : Bool}
/-- For every element: its cells, and every field's own reading. -/
theorem open_nested {t e : TypeId} {fs : Array Field} {fuel : Nat} {cs : List Value} {x : DataW H × List MemPlace} (ht : P.underlying t = some (.slice e)) (he : P.underlying e = some (.struct fs))
    (h : DataW.trod enc P w base spare held fuel t cs = some x) :
    (cs = [.slice none 0 0]) ∨
    ∃ (a : Addr) (len cap m : Nat), cs = [.slice (some a) len cap] ∧ len ≤ cap ∧ cap ≤ maxLen ∧ m = (if spare a.block then cap else len) ∧
      ∀ i, i < m → ∃ (n : Nat) (cs' : List Value), cs'.length = P.cellsOf e ∧ (∀ j, j < P.cellsOf e → w.cell? ((a.add (i * P.cellsOf e)).add j) = cs'[j]?) ∧ ∀ (j : Nat) (f : Field), fs[j]? = some f → ∃ y : DataW H × List MemPlace, DataW.trod enc P w base spare held n f.type ((cs'.drop f.offset).take (P.cellsOf f.type)) = some y := by
  rcases open_slice ht h with h0 | ⟨a, len, cap, m, n, D, Pl, hcs, hb, hl, hm, hmm, hx, hi⟩
  · exact .inl h0.1
  · refine .inr ⟨a, len, cap, m, hcs, hl, hm, hmm, fun i him => ?_⟩
    obtain ⟨cs', hc, ht'⟩ := hi i him
    obtain ⟨ys, n', hn', hy, hlen, hyl, hf⟩ := DataW.trod_struct he ht'
    obtain ⟨_, hcl, hat⟩ := World.cells?_some hc
    refine ⟨n', cs', hcl, hat, fun j f hj => ?_⟩
    have hjl : j < fs.size := (Array.getElem?_eq_some_iff.1 hj).1
    have hys : ys[j]? = some (ys[j]'(by omega)) := List.getElem?_eq_getElem (by omega)
    exact ⟨_, (hf j f hj).trans hys⟩
end

/-- A slice of steps that came in. -/
def IsSps (w : World) (a : Option Addr) (len : Nat) (l : List Sp) : Prop :=
  l.length = len ∧ (len : Int) ≤ 9223372036854775807 ∧ ∀ i t, l[i]? = some t → (I64 t.n ∧ I64 t.m.1) ∧ ∃ x, a = some x ∧ w.cell? (x.add (i * 8)) = some (.int .i64 t.d) ∧
    w.cell? ⟨(x.add (i * 8)).block, (x.add (i * 8)).off + 1, none⟩ = some (.int .i64 t.m.1) ∧ w.cell? ⟨(x.add (i * 8)).block, (x.add (i * 8)).off + 2, none⟩ = some (.int .i64 t.m.2.s) ∧
    w.cell? ⟨(x.add (i * 8)).block, (x.add (i * 8)).off + 3, none⟩ = some (.int .i64 t.m.2.u) ∧ w.cell? ⟨(x.add (i * 8)).block, (x.add (i * 8)).off + 4, none⟩ = some (.int .i64 t.m.2.b) ∧
    w.cell? ⟨(x.add (i * 8)).block, (x.add (i * 8)).off + 5, none⟩ = some (.int .i64 t.n) ∧ w.cell? ⟨(x.add (i * 8)).block, (x.add (i * 8)).off + 6, none⟩ = some (.int .i64 t.t) ∧
    w.cell? ⟨(x.add (i * 8)).block, (x.add (i * 8)).off + 7, none⟩ = some (.int .u64 t.k)
theorem IsSps.new {w w' : World} {a : Option Addr} {len : Nat} {l : List Sp} (h : IsSps w a len l) (hm : Mod (fun _ => False) w w') : IsSps w' a len l :=
  ⟨h.1, h.2.1, fun i t hi => by
    obtain ⟨hk, x, rfl, h0, h1, h2, h3, h4, h5, h6, h7⟩ := h.2.2 i t hi
    exact ⟨hk, x, rfl, hm.cell h0 (fun h => h), hm.cell h1 (fun h => h), hm.cell h2 (fun h => h), hm.cell h3 (fun h => h), hm.cell h4 (fun h => h), hm.cell h5 (fun h => h), hm.cell h6 (fun h => h), hm.cell h7 (fun h => h)⟩⟩
set_option maxRecDepth 100000 in
set_option maxHeartbeats 1000000 in
theorem open_sps {H : Type} {enc : TypeId × Value → H} {W : World} {base : Nat} {v : Value} {d : DataW H} {p : List MemPlace} (hval : Value.okWide Try.prog W .any base 48 v) (h : DataW.Trod enc Try.prog W 0 (fun _ => true) true 48 v d p) :
    ∃ a len cap l, v = .slice a len cap ∧ IsSps W a len l := by
  obtain ⟨a, len, cap, rfl⟩ := okWide_slice Try.underlying48 hval
  refine ⟨a, len, cap, ?_⟩
  obtain ⟨fuel, hf⟩ := h
  have hK : Try.prog.cellsOf 54 = 8 := by kernel_rfl
  have hI : Try.prog.cellsOf 3 = 1 := by kernel_rfl
  have hU : Try.prog.cellsOf 45 = 1 := by kernel_rfl
  have hM : Try.prog.cellsOf 29 = 4 := by kernel_rfl
  rcases open_nested Try.underlying48 Try.underlying54 hf with hcs | ⟨x, l, c, m, hcs, hl, hm, hmm, hi⟩
  · simp [Value.cells] at hcs
    obtain ⟨rfl, rfl, rfl⟩ := hcs
    exact ⟨[], rfl, rfl, by decide, fun i t h => by simp at h⟩
  · simp [Value.cells] at hcs
    obtain ⟨rfl, rfl, rfl⟩ := hcs
    have key : ∀ i, i < len → ∃ t : Sp, (I64 t.n ∧ I64 t.m.1) ∧ W.cell? (x.add (i * 8)) = some (.int .i64 t.d) ∧ W.cell? ((x.add (i * 8)).add 1) = some (.int .i64 t.m.1) ∧ W.cell? ((x.add (i * 8)).add 2) = some (.int .i64 t.m.2.s) ∧ W.cell? ((x.add (i * 8)).add 3) = some (.int .i64 t.m.2.u) ∧ W.cell? ((x.add (i * 8)).add 4) = some (.int .i64 t.m.2.b) ∧ W.cell? ((x.add (i * 8)).add 5) = some (.int .i64 t.n) ∧ W.cell? ((x.add (i * 8)).add 6) = some (.int .i64 t.t) ∧ W.cell? ((x.add (i * 8)).add 7) = some (.int .u64 t.k) := by
      intro i hi'
      obtain ⟨n, cs', hl8, hc, hf⟩ := hi i (by rw [hmm]; simp; omega)
      rw [hK] at hl8 hc
      obtain ⟨v0, v1, v2, v3, v4, v5, v6, v7, rfl⟩ : ∃ v0 v1 v2 v3 v4 v5 v6 v7, cs' = [v0, v1, v2, v3, v4, v5, v6, v7] := by
        match cs', hl8 with
        | [v0, v1, v2, v3, v4, v5, v6, v7], _ => exact ⟨v0, v1, v2, v3, v4, v5, v6, v7, rfl⟩
      obtain ⟨y0, t0⟩ := hf 0 _ rfl
      obtain ⟨y1, t1⟩ := hf 1 _ rfl
      obtain ⟨y2, t2⟩ := hf 2 _ rfl
      obtain ⟨y3, t3⟩ := hf 3 _ rfl
      obtain ⟨y4, t4⟩ := hf 4 _ rfl
      replace t0 : DataW.trod enc Try.prog W 0 (fun _ => true) true n 3 (([v0, v1, v2, v3, v4, v5, v6, v7].drop 0).take (Try.prog.cellsOf 3)) = some y0 := t0
      replace t1 : DataW.trod enc Try.prog W 0 (fun _ => true) true n 29 (([v0, v1, v2, v3, v4, v5, v6, v7].drop 1).take (Try.prog.cellsOf 29)) = some y1 := t1
      replace t2 : DataW.trod enc Try.prog W 0 (fun _ => true) true n 3 (([v0, v1, v2, v3, v4, v5, v6, v7].drop 5).take (Try.prog.cellsOf 3)) = some y2 := t2
      replace t3 : DataW.trod enc Try.prog W 0 (fun _ => true) true n 3 (([v0, v1, v2, v3, v4, v5, v6, v7].drop 6).take (Try.prog.cellsOf 3)) = some y3 := t3
      replace t4 : DataW.trod enc Try.prog W 0 (fun _ => true) true n 45 (([v0, v1, v2, v3, v4, v5, v6, v7].drop 7).take (Try.prog.cellsOf 45)) = some y4 := t4
      rw [hI] at t0 t2 t3
      rw [hU] at t4
      rw [hM] at t1
      obtain ⟨ys, n', _, _, _, hyl, hg⟩ := DataW.trod_struct Try.underlying29 t1
      have hyl' : ys.length = 4 := hyl
      have g : ∀ j (h : j < 4), ys[j]? = some (ys[j]'(by omega)) := fun j h => List.getElem?_eq_getElem (by omega)
      have g0 := (hg 0 _ rfl).trans (g 0 (by decide))
      have g1 := (hg 1 _ rfl).trans (g 1 (by decide))
      have g2 := (hg 2 _ rfl).trans (g 2 (by decide))
      have g3 := (hg 3 _ rfl).trans (g 3 (by decide))
      replace g0 : DataW.trod enc Try.prog W 0 (fun _ => true) true n' 3 (([v1, v2, v3, v4].drop 0).take (Try.prog.cellsOf 3)) = some _ := g0
      replace g1 : DataW.trod enc Try.prog W 0 (fun _ => true) true n' 3 (([v1, v2, v3, v4].drop 1).take (Try.prog.cellsOf 3)) = some _ := g1
      replace g2 : DataW.trod enc Try.prog W 0 (fun _ => true) true n' 3 (([v1, v2, v3, v4].drop 2).take (Try.prog.cellsOf 3)) = some _ := g2
      replace g3 : DataW.trod enc Try.prog W 0 (fun _ => true) true n' 3 (([v1, v2, v3, v4].drop 3).take (Try.prog.cellsOf 3)) = some _ := g3
      rw [hI] at g0 g1 g2 g3
      obtain ⟨k0, e0, _⟩ := DataW.trod_int Try.underlying3 t0
      obtain ⟨m0, f0, _, wm⟩ := DataW.trod_int Try.underlying3 g0
      obtain ⟨m1, f1, _⟩ := DataW.trod_int Try.underlying3 g1
      obtain ⟨m2, f2, _⟩ := DataW.trod_int Try.underlying3 g2
      obtain ⟨m3, f3, _⟩ := DataW.trod_int Try.underlying3 g3
      obtain ⟨k2, e2, _, w2⟩ := DataW.trod_int Try.underlying3 t2
      obtain ⟨k3, e3, _⟩ := DataW.trod_int Try.underlying3 t3
      obtain ⟨k4, e4, _⟩ := DataW.trod_int Try.underlying45 t4
      simp at e0 e2 e3 e4 f0 f1 f2 f3
      subst e0; subst e2; subst e3; subst e4; subst f0; subst f1; subst f2; subst f3
      exact ⟨⟨k0, (m0, ⟨m1, m2, m3⟩), k2, k3, k4⟩, ⟨w2, wm⟩, by simpa [Addr.add] using hc 0 (by decide), hc 1 (by decide), hc 2 (by decide), hc 3 (by decide), hc 4 (by decide), hc 5 (by decide), hc 6 (by decide), hc 7 (by decide)⟩
    obtain ⟨F, hF⟩ : ∃ F : Nat → Sp, ∀ i, i < len → (I64 (F i).n ∧ I64 (F i).m.1) ∧ W.cell? (x.add (i * 8)) = some (.int .i64 (F i).d) ∧ W.cell? ((x.add (i * 8)).add 1) = some (.int .i64 (F i).m.1) ∧ W.cell? ((x.add (i * 8)).add 2) = some (.int .i64 (F i).m.2.s) ∧ W.cell? ((x.add (i * 8)).add 3) = some (.int .i64 (F i).m.2.u) ∧ W.cell? ((x.add (i * 8)).add 4) = some (.int .i64 (F i).m.2.b) ∧ W.cell? ((x.add (i * 8)).add 5) = some (.int .i64 (F i).n) ∧ W.cell? ((x.add (i * 8)).add 6) = some (.int .i64 (F i).t) ∧ W.cell? ((x.add (i * 8)).add 7) = some (.int .u64 (F i).k) := by
      refine ⟨fun i => if h : i < len then (key i h).choose else ⟨0, (0, ⟨0, 0, 0⟩), 0, 0, 0⟩, fun i h => ?_⟩
      simp only [h, dif_pos]
      exact (key i h).choose_spec
    refine ⟨(List.range len).map F, rfl, by simp, by unfold maxLen at hm; omega, fun i t ht => ?_⟩
    have hil : i < len := by simpa using (List.getElem?_eq_some_iff.1 ht).1
    rw [List.getElem?_map, List.getElem?_range hil] at ht
    simp at ht
    subst ht
    obtain ⟨gk, g0, g1, g2, g3, g4, g5, g6, g7⟩ := hF i hil
    exact ⟨gk, x, rfl, g0, g1, g2, g3, g4, g5, g6, g7⟩
end Go.Proofs.Ytagiodagbfahpaa
