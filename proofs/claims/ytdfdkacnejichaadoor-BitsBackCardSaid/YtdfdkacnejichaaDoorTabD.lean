/- The library's table as the row lays it; steps as they come in; no condition. -/
import Derived.Test.YtdfdkacnejichaaDoorBitsX
import Derived.Test.YtdfdkacnejichaaDoorOpen
import Derived.Lib.SmallJoins
import Derived.ProofKit
import Derived.LaidMore
import Derived.OpenShut
import Derived.Stop.Joined
namespace Go.Proofs.YtdfdkacnejichaaDoor
open Go Go.RowKit Go.ChangeShapes Go.WideShapes Go.ChangeAt Go.Deep

/-- The table's name, as the row has it. -/
abbrev tabT : String := (Rows.bitsGoesRow.laid.map (·.1)).headD ""
abbrev laidT : List (String × DataW Unit) := [(tabT, Rows.laid_math_bits_deBruijn64tab)]
theorem gTabIs : Tryd.prog.globalNamed tabT = some 0 := by kernel_rfl
theorem tTabIs : (Tryd.prog.globals[0]?).map (·.type) = some 72 := by kernel_rfl
theorem door_met (os : Os) (args : Array Value) : laidMetH Tryd.prog laidT ((World.doorLaid Tryd.prog 400 os).forCall (fun _ _ => 0) ⟨#[], args, []⟩).memory :=
  laidMetH_of_parts3 (fuel := 8) (laidMet_of_run' 8 (by kernel_rfl) (by kernel_rfl)) (by kernel_rfl) (by kernel_rfl)
def litI : DataW Unit → Int
  | .lit (.int _ n) => n
  | _ => 0
def litsOf : DataW Unit → List Int
  | .agg l => l.map litI
  | _ => []
theorem litsTab : litsOf (Rows.laid_math_bits_deBruijn64tab : DataW Unit) = Lib.deBruijn64tab.map (fun (n : Nat) => (n : Int)) := by kernel_rfl
theorem of_laid {W : World} (h : laidMetH Tryd.prog laidT W) : TabW W := by
  rw [MakeChecks.laidMetH_plain _ _ _ (by kernel_rfl)] at h
  obtain ⟨ps, ⟨g0, t0, cs0, f0, p0, q0, hg0, ht0, hv0, hd0, _, _⟩, _, _⟩ := h
  obtain rfl := Option.some.inj (gTabIs.symm.trans hg0)
  obtain rfl := Option.some.inj (tTabIs.symm.trans ht0)
  obtain ⟨xs, m1, rfl, hx1, hlen, hn, hel⟩ := DataW.trod_array Tryd.underlying72 hd0
  simp only [Prod.mk.injEq] at hx1
  have hx := hx1.1
  have c1 : Tryd.prog.cellsOf 5 = 1 := by kernel_rfl
  intro j hj
  have hj64 : j < 64 := hj
  have h0 := hel j hj64
  rw [c1, Nat.mul_one] at h0
  obtain ⟨y, hy⟩ : ∃ y, xs[j]? = some y := ⟨_, List.getElem?_eq_getElem (by omega)⟩
  rw [hy] at h0
  obtain ⟨k, e1, e2, _⟩ := DataW.trod_int Tryd.underlying5 h0
  have hk : k = (Lib.deBruijn64tab.getD j 0 : Nat) := by
    have h1 : (Rows.laid_math_bits_deBruijn64tab : DataW Unit) = .agg (xs.map (·.1)) := hx
    have h2 := litsTab
    rw [h1] at h2
    have h3 := congrArg (·[j]?) h2
    simp only [litsOf, List.getElem?_map, hy, Option.map_some] at h3
    have hjl : j < Lib.deBruijn64tab.length := hj
    rw [List.getElem?_eq_getElem hjl, Option.map_some, Option.some.injEq] at h3
    rw [List.getD_eq_getElem?_getD, List.getElem?_eq_getElem hjl, Option.getD_some, ← h3, e2]
    rfl
  subst hk
  have h4 := World.var?_cell hg0 hv0 j
  have h5 : cs0.toList[j]? = some (.int .u8 (Lib.deBruijn64tab.getD j 0 : Nat)) := by
    have h6 := congrArg (·[0]?) e1
    simpa [List.getElem?_take, List.getElem?_drop] using h6
  show W.cell? ⟨0, j, none⟩ = _
  rw [h4]
  simpa using h5
/-- Steps as they come in. -/
theorem open_steps {H : Type} {enc : TypeId × Value → H} {W : World} {base : Nat} {v : Value} {d : DataW H} {p : List MemPlace} (hval : Value.okWide Tryd.prog W .any base 22 v) (h : DataW.Trod enc Tryd.prog W 0 (fun _ => true) true 22 v d p) :
    ∃ a len cap l, v = .slice a len cap ∧ IsSteps W a len l := by
  obtain ⟨a, len, cap, rfl⟩ := okWide_slice Tryd.underlying22 hval
  refine ⟨a, len, cap, ?_⟩
  obtain ⟨fuel, hf⟩ := h
  rcases open_fields Tryd.underlying22 Tryd.underlying33 (by kernel_rfl) (by kernel_rfl) hf with hcs | ⟨x, l, c, m, hcs, hl, hm, hmm, hi⟩
  · simp [Value.cells] at hcs
    obtain ⟨rfl, rfl, rfl⟩ := hcs
    exact ⟨[], rfl, rfl, by decide, fun i t h => by simp at h⟩
  · simp [Value.cells] at hcs
    obtain ⟨rfl, rfl, rfl⟩ := hcs
    have key : ∀ i, i < len → ∃ t : St, W.cell? (x.add (i * 4)) = some (.int .i64 t.d) ∧ W.cell? (x.add (i * 4 + 1)) = some (.int .i64 t.i) ∧ W.cell? (x.add (i * 4 + 2)) = some (.int .i64 t.j) ∧ W.cell? (x.add (i * 4 + 3)) = some (.bool t.one) := by
      intro i hi'
      obtain ⟨n, g⟩ := hi i (by rw [hmm]; simp; omega)
      obtain ⟨v0, y0, c0, t0⟩ := g 0 _ rfl
      obtain ⟨v1, y1, c1, t1⟩ := g 1 _ rfl
      obtain ⟨v2, y2, c2, t2⟩ := g 2 _ rfl
      obtain ⟨v3, y3, c3, t3⟩ := g 3 _ rfl
      obtain ⟨k0, e0, _⟩ := DataW.trod_int Tryd.underlying3 t0
      obtain ⟨k1, e1, _⟩ := DataW.trod_int Tryd.underlying3 t1
      obtain ⟨k2, e2, _⟩ := DataW.trod_int Tryd.underlying3 t2
      obtain ⟨k3, e3, _⟩ := DataW.trod_bool Tryd.underlying4 t3
      cases e0; cases e1; cases e2; cases e3
      exact ⟨⟨k0, k1, k2, k3⟩, c0, c1, c2, c3⟩
    obtain ⟨F, hF⟩ : ∃ F : Nat → St, ∀ i, i < len → W.cell? (x.add (i * 4)) = some (.int .i64 (F i).d) ∧ W.cell? (x.add (i * 4 + 1)) = some (.int .i64 (F i).i) ∧ W.cell? (x.add (i * 4 + 2)) = some (.int .i64 (F i).j) ∧ W.cell? (x.add (i * 4 + 3)) = some (.bool (F i).one) := by
      refine ⟨fun i => if h : i < len then (key i h).choose else ⟨0, 0, 0, false⟩, fun i h => ?_⟩
      simp only [h, dif_pos]
      exact (key i h).choose_spec
    refine ⟨(List.range len).map F, rfl, by simp, by unfold maxLen at hm; omega, fun i t ht => ?_⟩
    have hil : i < len := by simpa using (List.getElem?_eq_some_iff.1 ht).1
    rw [List.getElem?_map, List.getElem?_range hil] at ht
    simp at ht
    subst ht
    obtain ⟨g0, g1, g2, g3⟩ := hF i hil
    refine ⟨x, rfl, g0, ?_, ?_, ?_⟩
    · rw [← Go.Deep.add_add] at g1; exact g1
    · rw [← Go.Deep.add_add] at g2; exact g2
    · rw [← Go.Deep.add_add] at g3; exact g3
/-- A step as it comes in. -/
theorem open_step {H : Type} {enc : TypeId × Value → H} {W : World} {base : Nat} {v : Value} {d : DataW H} {p : List MemPlace} (hval : Value.okWide Tryd.prog W .any base 33 v) (h : DataW.Trod enc Tryd.prog W 0 (fun _ => true) true 33 v d p) :
    ∃ t : St, v = stV t ∧ True := by
  obtain ⟨v0, v1, v2, v3, y0, y1, y2, y3, n, rfl, _, _, t0, t1, t2, t3⟩ := Go.Joins.open_agg4 Tryd.underlying33 (by kernel_rfl) (by kernel_rfl) hval h
  obtain ⟨k0, e0, _⟩ := DataW.trod_int Tryd.underlying3 t0
  obtain ⟨k1, e1, _⟩ := DataW.trod_int Tryd.underlying3 t1
  obtain ⟨k2, e2, _⟩ := DataW.trod_int Tryd.underlying3 t2
  obtain ⟨k3, e3, _⟩ := DataW.trod_bool Tryd.underlying4 t3
  cases e0; cases e1; cases e2; cases e3
  exact ⟨⟨k0, k1, k2, k3⟩, rfl, trivial⟩
end Go.Proofs.YtdfdkacnejichaaDoor
