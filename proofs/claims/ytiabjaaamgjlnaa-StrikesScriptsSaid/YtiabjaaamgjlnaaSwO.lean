/- The laws on strikes: steps and limits as they come in; no condition. -/
import Derived.Test.YtiabjaaamgjlnaaSwB
import Derived.Test.YtiabjaaamgjlnaaOpen
import Derived.Lib.SmallJoins
import Derived.WideKeyPair
import Derived.ProofKit
import Derived.OpenShut
namespace Go.Proofs.Ytiabjaaamgjlnaa
open Go Go.RowKit Go.ChangeShapes Go.WideShapes Go.ChangeAt Go.Deep

/-- A slice of steps that came in. -/
def IsSteps (w : World) (a : Option Addr) (len : Nat) (l : List St) : Prop :=
  l.length = len ∧ (len : Int) ≤ 9223372036854775807 ∧ ∀ i t, l[i]? = some t → I64 t.i ∧ ∃ x, a = some x ∧ w.cell? (x.add (i * 4)) = some (.int .i64 t.d) ∧ w.cell? ⟨(x.add (i * 4)).block, (x.add (i * 4)).off + 1, none⟩ = some (.int .i64 t.i) ∧ w.cell? ⟨(x.add (i * 4)).block, (x.add (i * 4)).off + 2, none⟩ = some (.int .i64 t.n) ∧ w.cell? ⟨(x.add (i * 4)).block, (x.add (i * 4)).off + 3, none⟩ = some (.int .i64 t.b)
theorem IsSteps.new {w w' : World} {a : Option Addr} {len : Nat} {l : List St} (h : IsSteps w a len l) (hm : Mod (fun _ => False) w w') : IsSteps w' a len l :=
  ⟨h.1, h.2.1, fun i t hi => by
    obtain ⟨hk, x, rfl, h0, h1, h2, h3⟩ := h.2.2 i t hi
    exact ⟨hk, x, rfl, hm.cell h0 (fun h => h), hm.cell h1 (fun h => h), hm.cell h2 (fun h => h), hm.cell h3 (fun h => h)⟩⟩
set_option maxRecDepth 100000 in
theorem open_steps {H : Type} {enc : TypeId × Value → H} {W : World} {base : Nat} {v : Value} {d : DataW H} {p : List MemPlace} (hval : Value.okWide Try.prog W .any base 39 v) (h : DataW.Trod enc Try.prog W 0 (fun _ => true) true 39 v d p) :
    ∃ a len cap l, v = .slice a len cap ∧ IsSteps W a len l := by
  obtain ⟨a, len, cap, rfl⟩ := okWide_slice Try.underlying39 hval
  refine ⟨a, len, cap, ?_⟩
  obtain ⟨fuel, hf⟩ := h
  rcases open_fields Try.underlying39 Try.underlying44 (by kernel_rfl) (by kernel_rfl) hf with hcs | ⟨x, l, c, m, hcs, hl, hm, hmm, hi⟩
  · simp [Value.cells] at hcs
    obtain ⟨rfl, rfl, rfl⟩ := hcs
    exact ⟨[], rfl, rfl, by decide, fun i t h => by simp at h⟩
  · simp [Value.cells] at hcs
    obtain ⟨rfl, rfl, rfl⟩ := hcs
    have key : ∀ i, i < len → ∃ t : St, I64 t.i ∧ W.cell? (x.add (i * 4)) = some (.int .i64 t.d) ∧ W.cell? (x.add (i * 4 + 1)) = some (.int .i64 t.i) ∧ W.cell? (x.add (i * 4 + 2)) = some (.int .i64 t.n) ∧ W.cell? (x.add (i * 4 + 3)) = some (.int .i64 t.b) := by
      intro i hi'
      obtain ⟨n, g⟩ := hi i (by rw [hmm]; simp; omega)
      obtain ⟨v0, y0, c0, t0⟩ := g 0 _ rfl
      obtain ⟨v1, y1, c1, t1⟩ := g 1 _ rfl
      obtain ⟨v2, y2, c2, t2⟩ := g 2 _ rfl
      obtain ⟨v3, y3, c3, t3⟩ := g 3 _ rfl
      obtain ⟨k0, e0, _⟩ := DataW.trod_int Try.underlying3 t0
      obtain ⟨k1, e1, _, w1⟩ := DataW.trod_int Try.underlying3 t1
      obtain ⟨k2, e2, _⟩ := DataW.trod_int Try.underlying3 t2
      obtain ⟨k3, e3, _⟩ := DataW.trod_int Try.underlying3 t3
      cases e0; cases e1; cases e2; cases e3
      exact ⟨⟨k0, k1, k2, k3⟩, w1, c0, c1, c2, c3⟩
    obtain ⟨F, hF⟩ : ∃ F : Nat → St, ∀ i, i < len → I64 (F i).i ∧ W.cell? (x.add (i * 4)) = some (.int .i64 (F i).d) ∧ W.cell? (x.add (i * 4 + 1)) = some (.int .i64 (F i).i) ∧ W.cell? (x.add (i * 4 + 2)) = some (.int .i64 (F i).n) ∧ W.cell? (x.add (i * 4 + 3)) = some (.int .i64 (F i).b) := by
      refine ⟨fun i => if h : i < len then (key i h).choose else ⟨0, 0, 0, 0⟩, fun i h => ?_⟩
      simp only [h, dif_pos]
      exact (key i h).choose_spec
    refine ⟨(List.range len).map F, rfl, by simp, by unfold maxLen at hm; omega, fun i t ht => ?_⟩
    have hil : i < len := by simpa using (List.getElem?_eq_some_iff.1 ht).1
    rw [List.getElem?_map, List.getElem?_range hil] at ht
    simp at ht
    subst ht
    obtain ⟨gk, g0, g1, g2, g3⟩ := hF i hil
    refine ⟨gk, x, rfl, g0, ?_, ?_, ?_⟩
    · rw [← Go.Deep.add_add] at g1; exact g1
    · rw [← Go.Deep.add_add] at g2; exact g2
    · rw [← Go.Deep.add_add] at g3; exact g3
/-- Three numbers as they come in. -/
structure X3 where
  x : Int
  y : Int
  z : Int
def x3V (s : X3) : Value := .agg #[.int .i64 s.x, .int .i64 s.y, .int .i64 s.z]
set_option maxRecDepth 100000 in
theorem open_x3 {H : Type} {enc : TypeId × Value → H} {W : World} {base : Nat} {v : Value} {d : DataW H} {p : List MemPlace} (hval : Value.okWide Try.prog W .any base 38 v) (hd : DataW.Trod enc Try.prog W 0 (fun _ => true) true 38 v d p) :
    ∃ s : X3, v = x3V s ∧ True := by
  have A : Go.WideMaps.ArrKey Try.prog 38 3 3 := ⟨Try.underlying38, by kernel_rfl, by kernel_rfl, by kernel_rfl⟩
  obtain ⟨c0, c1, c2, rfl⟩ : ∃ c0 c1 c2, v = .agg #[c0, c1, c2] := by
    simp only [Value.okWide, A.hu] at hval
    obtain ⟨cs, h1, h2, _⟩ := hval
    rw [A.size] at h2
    obtain ⟨l⟩ := cs
    match l, h2 with
    | [c0, c1, c2], _ => exact ⟨c0, c1, c2, h1⟩
  obtain ⟨fuel, hf⟩ := hd
  cases fuel with
  | zero => simp [DataW.trod] at hf
  | succ n =>
    rw [DataW.trod_step] at hf
    unfold DataW.trodStep at hf
    simp only [A.hu, Value.cells] at hf
    rw [if_pos (by rw [A.size]; rfl)] at hf
    simp only [Option.map_eq_some_iff] at hf
    obtain ⟨xs, hx, e1⟩ := hf
    rw [show List.range 3 = [0, 1, 2] from rfl, List.mapM_cons, List.mapM_cons, List.mapM_cons, List.mapM_nil] at hx
    simp only [bind, Option.bind_eq_some_iff, pure, Option.some.injEq, A.one] at hx
    obtain ⟨y0, h0, _, ⟨y1, h1, _, ⟨y2, h2, _, rfl, rfl⟩, rfl⟩, rfl⟩ := hx
    obtain ⟨a, ea, rfl, wa⟩ := DataW.trod_int Try.underlying3 h0
    obtain ⟨b, eb, rfl, wb⟩ := DataW.trod_int Try.underlying3 h1
    obtain ⟨c, ec, rfl, wc⟩ := DataW.trod_int Try.underlying3 h2
    simp at ea eb ec
    subst ea; subst eb; subst ec
    exact ⟨⟨a, b, c⟩, rfl, trivial⟩
end Go.Proofs.Ytiabjaaamgjlnaa
