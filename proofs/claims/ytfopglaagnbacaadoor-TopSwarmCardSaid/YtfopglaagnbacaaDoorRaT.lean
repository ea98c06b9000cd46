/- The library's table as the row lays it; no condition. -/
import Derived.Test.YtfopglaagnbacaaDoorRaE
import Derived.Test.YtfopglaagnbacaaDoorOpen
import Derived.Lib.SmallJoins
import Derived.ProofKit
import Derived.LaidMore
import Derived.OpenShut
import Derived.Stop.Joined
namespace Go.Proofs.YtfopglaagnbacaaDoor
open Go Go.RowKit Go.ChangeShapes Go.WideShapes Go.ChangeAt Go.Deep

/-- The table's name, as the row has it. -/
abbrev tabT : String := (Rows.topSwarmRow.laid.map (·.1)).headD ""
abbrev laidT : List (String × DataW Unit) := [(tabT, Rows.laid_math_bits_deBruijn64tab)]
theorem gTabIs : Tryd.prog.globalNamed tabT = some 0 := by kernel_rfl
theorem tTabIs : (Tryd.prog.globals[0]?).map (·.type) = some 101 := by kernel_rfl
theorem door_met (os : Os) (args : Array Value) : laidMetH Tryd.prog laidT ((World.doorLaid Tryd.prog 400 os).forCall (fun _ _ => 0) ⟨#[], args, []⟩).memory :=
  laidMetH_of_parts3 (fuel := 8) (laidMet_of_run' 8 (by kernel_rfl) (by kernel_rfl)) (by kernel_rfl) (by kernel_rfl)
def litI : DataW Unit → Int
  | .lit (.int _ n) => n
  | _ => 0
def litsOf : DataW Unit → List Int
  | .agg l => l.map litI
  | _ => []
theorem litsTab : litsOf (Rows.laid_math_bits_deBruijn64tab : DataW Unit) = Lib.deBruijn64tab.map (fun (n : Nat) => (n : Int)) := by kernel_rfl
theorem of_laid {W : World} (h : laidMetH Tryd.prog laidT W) : TabW W := by
  rw [MakeChecks.laidMetH_plain _ _ _ (by kernel_rfl)] at h
  obtain ⟨ps, ⟨g0, t0, cs0, f0, p0, q0, hg0, ht0, hv0, hd0, _, _⟩, _, _⟩ := h
  obtain rfl := Option.some.inj (gTabIs.symm.trans hg0)
  obtain rfl := Option.some.inj (tTabIs.symm.trans ht0)
  obtain ⟨xs, m1, rfl, hx1, hlen, hn, hel⟩ := DataW.trod_array Tryd.underlying101 hd0
  simp only [Prod.mk.injEq] at hx1
  have hx := hx1.1
  have c1 : Tryd.prog.cellsOf 5 = 1 := by kernel_rfl
  intro j hj
  have hj64 : j < 64 := hj
  have h0 := hel j hj64
  rw [c1, Nat.mul_one] at h0
  obtain ⟨y, hy⟩ : ∃ y, xs[j]? = some y := ⟨_, List.getElem?_eq_getElem (by omega)⟩
  rw [hy] at h0
  obtain ⟨k, e1, e2, _⟩ := DataW.trod_int Tryd.underlying5 h0
  have hk : k = (Lib.deBruijn64tab.getD j 0 : Nat) := by
    have h1 : (Rows.laid_math_bits_deBruijn64tab : DataW Unit) = .agg (xs.map (·.1)) := hx
    have h2 := litsTab
    rw [h1] at h2
    have h3 := congrArg (·[j]?) h2
    simp only [litsOf, List.getElem?_map, hy, Option.map_some] at h3
    have hjl : j < Lib.deBruijn64tab.length := hj
    rw [List.getElem?_eq_getElem hjl, Option.map_some, Option.some.injEq] at h3
    rw [List.getD_eq_getElem?_getD, List.getElem?_eq_getElem hjl, Option.getD_some, ← h3, e2]
    rfl
  subst hk
  have h4 := World.var?_cell hg0 hv0 j
  have h5 : cs0.toList[j]? = some (.int .u8 (Lib.deBruijn64tab.getD j 0 : Nat)) := by
    have h6 := congrArg (·[0]?) e1
    simpa [List.getElem?_take, List.getElem?_drop] using h6
  show W.cell? ⟨0, j, none⟩ = _
  rw [h4]
  simpa using h5
end Go.Proofs.YtfopglaagnbacaaDoor
