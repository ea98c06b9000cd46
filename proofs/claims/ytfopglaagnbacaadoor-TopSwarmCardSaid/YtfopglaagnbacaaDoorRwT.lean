/- The walk of the statement RarestTurned: the call returns true and turns nothing that was there; no condition but the table. -/
import Derived.Test.YtfopglaagnbacaaDoorRwO
import Derived.Test.YtfopglaagnbacaaDoorOpen
namespace Go.Proofs.YtfopglaagnbacaaDoor
open Go Go.RowKit Go.ChangeShapes Go.WideShapes Go.ChangeAt Go.Deep

/-- A slice of bytes, as it lies. -/
structure By where
  a : Option Addr
  len : Nat
  cap : Nat
  bs : List Nat
instance : Inhabited By := ⟨⟨none, 0, 0, []⟩⟩
def IsBss (w : World) (a : Option Addr) (len : Nat) (l : List By) : Prop :=
  l.length = len ∧ (len : Int) ≤ 9223372036854775807 ∧ ∀ i t, l[i]? = some t → (∃ x, a = some x ∧ w.cell? (x.add i) = some (.slice t.a t.len t.cap)) ∧ Sl w (.slice t.a t.len t.cap) 1 t.len (byts t.bs) ∧ ∀ x ∈ t.bs, x < 256
theorem IsBss.new {w w' : World} {a : Option Addr} {len : Nat} {l : List By} (h : IsBss w a len l) (hm : Mod (fun _ => False) w w') : IsBss w' a len l :=
  ⟨h.1, h.2.1, fun i t hi => by
    obtain ⟨⟨x, rfl, h1⟩, h2, h3⟩ := h.2.2 i t hi
    exact ⟨⟨x, rfl, hm.cell h1 (fun h => h)⟩, h2.mod hm (fun _ _ _ _ h => h), h3⟩⟩
set_option maxRecDepth 100000 in
theorem open_bss {H : Type} {enc : TypeId × Value → H} {W : World} {base : Nat} {v : Value} {d : DataW H} {p : List MemPlace} (hval : Value.okWide Tryd.prog W .any base 22 v) (h : DataW.Trod enc Tryd.prog W 0 (fun _ => true) true 22 v d p) :
    ∃ a len cap l, v = .slice a len cap ∧ IsBss W a len l := by
  obtain ⟨a, len, cap, rfl⟩ := okWide_slice Tryd.underlying22 hval
  refine ⟨a, len, cap, ?_⟩
  obtain ⟨fuel, hf⟩ := h
  rcases open_slice1 Tryd.underlying22 (by kernel_rfl) hf with ⟨hcs, _⟩ | ⟨x, l, c, m, n, V, D, Pl, hcs, _, hl, hm, hmm, _, hi⟩
  · simp [Value.cells] at hcs
    obtain ⟨rfl, rfl, rfl⟩ := hcs
    exact ⟨[], rfl, rfl, by decide, fun i t h => by simp at h⟩
  · simp [Value.cells] at hcs
    obtain ⟨rfl, rfl, rfl⟩ := hcs
    have key : ∀ i, i < len → ∃ t : By, W.cell? (x.add i) = some (.slice t.a t.len t.cap) ∧ Sl W (.slice t.a t.len t.cap) 1 t.len (byts t.bs) ∧ ∀ x ∈ t.bs, x < 256 := by
      intro i hi'
      obtain ⟨h1, h2⟩ := hi i (by rw [hmm]; simp; omega)
      rcases open_ints Tryd.underlying32 Tryd.underlying5 (by kernel_rfl) h2 with ⟨hcs, _⟩ | ⟨y, l2, c2, zs, hcs, _, hl2, hm2, hz, _, hcell, hwz⟩
      · simp at hcs
        rw [hcs] at h1
        exact ⟨⟨none, 0, 0, []⟩, h1, Sl.nil _ _, by simp⟩
      · simp at hcs
        rw [hcs] at h1
        obtain ⟨bs, hbl, hb, hs⟩ := IsRow.bytes (w := W) (a := some y) (len := l2) (cap := c2) (zs := zs) (.inr ⟨_, rfl, hl2, hm2, by simpa using hz, hcell, hwz⟩)
        exact ⟨⟨some y, l2, c2, bs⟩, h1, hs, hb⟩
    obtain ⟨F, hF⟩ : ∃ F : Nat → By, ∀ i, i < len → W.cell? (x.add i) = some (.slice (F i).a (F i).len (F i).cap) ∧ Sl W (.slice (F i).a (F i).len (F i).cap) 1 (F i).len (byts (F i).bs) ∧ ∀ x ∈ (F i).bs, x < 256 := by
      refine ⟨fun i => if h : i < len then (key i h).choose else default, fun i h => ?_⟩
      simp only [h, dif_pos]
      exact (key i h).choose_spec
    refine ⟨(List.range len).map F, rfl, by simp, by unfold maxLen at hm; omega, fun i t ht => ?_⟩
    have hil : i < len := by simpa using (List.getElem?_eq_some_iff.1 ht).1
    rw [List.getElem?_map, List.getElem?_range hil] at ht
    simp at ht
    subst ht
    obtain ⟨g0, g1, g2⟩ := hF i hil
    exact ⟨⟨x, rfl, g0⟩, g1, g2⟩

/-- Sums. -/
def sm (g : Nat → Int) : Nat → Int
  | 0 => 0
  | k + 1 => sm g k + g k
theorem sm_front (h : Nat → Int) : ∀ m, sm h (m + 1) = h 0 + sm (fun i => h (i + 1)) m
  | 0 => by simp [sm]
  | m + 1 => by
    show sm h (m + 1) + h (m + 1) = h 0 + (sm (fun i => h (i + 1)) m + h (m + 1))
    rw [sm_front h m]
    omega
theorem sm_ext {g h : Nat → Int} : ∀ {m}, (∀ i, i < m → g i = h i) → sm g m = sm h m
  | 0, _ => rfl
  | m + 1, e => by
    show sm g m + g m = sm h m + h m
    rw [sm_ext (fun i hi => e i (by omega)), e m (by omega)]
theorem sm_rev (g : Nat → Int) : ∀ m, sm (fun i => g (m - 1 - i)) m = sm g m
  | 0 => rfl
  | m + 1 => by
    rw [sm_front]
    show g (m + 1 - 1 - 0) + sm (fun i => g (m + 1 - 1 - (i + 1))) m = sm g m + g m
    rw [sm_ext (h := fun i => g (m - 1 - i)) (fun i _ => by congr 1; omega), sm_rev g m, show m + 1 - 1 - 0 = m by omega]
    omega
theorem sm_bd {g : Nat → Int} (h : ∀ i, 0 ≤ g i ∧ g i ≤ 1) : ∀ m, 0 ≤ sm g m ∧ sm g m ≤ m
  | 0 => by simp [sm]
  | m + 1 => by
    have := sm_bd h m
    have := h m
    unfold sm
    omega
def gI (fB : Nat → Nat → Bool) (j i : Nat) : Int := if fB i j = true then 1 else 0
theorem gI_bd (fB : Nat → Nat → Bool) (j i : Nat) : 0 ≤ gI fB j i ∧ gI fB j i ≤ 1 := by unfold gI; split <;> omega
theorem F13_out (n : Nat) (bs : List Nat) {j : Nat} (h : n ≤ j) : F13 n bs j = false := by unfold F13; simp; omega
theorem cnK_add {c : Nat → Int} {f : Nat → Bool} {n : Nat} (hf : ∀ j, n ≤ j → f j = false) (j : Nat) : cnK c f 1 n j = c j + if f j = true then 1 else 0 := by
  unfold cnK
  by_cases h : f j = true
  · have : j < n := by
      rcases Nat.lt_or_ge j n with h2 | h2
      · exact h2
      · rw [hf j h2] at h; cases h
    rw [if_pos ⟨this, h⟩, if_pos h]
  · rw [if_neg (fun e => h e.2), if_neg h]; omega
def csA (fB : Nat → Nat → Bool) (k j : Nat) : Int := sm (gI fB j) k
def csB (fB : Nat → Nat → Bool) (m k j : Nat) : Int := sm (fun i => gI fB j (m - 1 - i)) k
theorem csA_step {fB : Nat → Nat → Bool} {n k : Nat} (hf : ∀ i j, n ≤ j → fB i j = false) : cnK (csA fB k) (fB k) 1 n = csA fB (k + 1) := by
  funext j
  rw [cnK_add (hf k)]
  rfl
theorem csB_step {fB : Nat → Nat → Bool} {n m k : Nat} (hf : ∀ i j, n ≤ j → fB i j = false) : cnK (csB fB m k) (fB (m - 1 - k)) 1 n = csB fB m (k + 1) := by
  funext j
  rw [cnK_add (hf _)]
  rfl
theorem cs_eq (fB : Nat → Nat → Bool) (m : Nat) : csB fB m m = csA fB m := by
  funext j
  exact sm_rev (gI fB j) m
theorem len_putO {α : Type} (ks : List (Int × α)) (id : Int) (v : α) : (putL ks id v).length ≤ ks.length + 1 := by
  unfold putL
  rw [length_insS]
  have : (delL ks id).length ≤ ks.length := List.length_filter_le _ _
  omega
/-- Which peers a board knows. -/
structure Knows (fB : Nat → Nat → Bool) (lo hi : Nat) (ks : List (Int × Ow)) : Prop where
  yes : ∀ i, lo ≤ i → i < hi → ∃ o, lkL ks ((i : Int) + 1) = some o ∧ o.f = fB i
  no : ∀ i : Nat, i < lo ∨ hi ≤ i → lkL ks ((i : Int) + 1) = none
  len : ks.length ≤ hi - lo
theorem Knows.up {fB : Nat → Nat → Bool} {lo hi : Nat} {ks : List (Int × Ow)} (h : Knows fB lo hi ks) (hl : lo ≤ hi) (x y : Nat) : Knows fB lo (hi + 1) (putL ks ((hi : Int) + 1) ⟨x, y, fB hi⟩) := by
  refine ⟨fun i h1 h2 => ?_, fun i hi' => ?_, by have := len_putO ks ((hi : Int) + 1) (⟨x, y, fB hi⟩ : Ow); have := h.len; omega⟩
  · rw [lk_put]
    by_cases e : i = hi
    · subst e; exact ⟨_, if_pos rfl, rfl⟩
    · rw [if_neg (by omega)]; exact h.yes i h1 (by omega)
  · rw [lk_put, if_neg (by omega)]; exact h.no i (by omega)
theorem Knows.down {fB : Nat → Nat → Bool} {lo hi : Nat} {ks : List (Int × Ow)} (h : Knows fB (lo + 1) hi ks) (hl : lo + 1 ≤ hi) (x y : Nat) : Knows fB lo hi (putL ks ((lo : Int) + 1) ⟨x, y, fB lo⟩) := by
  refine ⟨fun i h1 h2 => ?_, fun i hi' => ?_, by have := len_putO ks ((lo : Int) + 1) (⟨x, y, fB lo⟩ : Ow); have := h.len; omega⟩
  · rw [lk_put]
    by_cases e : i = lo
    · subst e; exact ⟨_, if_pos rfl, rfl⟩
    · rw [if_neg (by omega)]; exact h.yes i (by omega) h2
  · rw [lk_put, if_neg (by omega)]; exact h.no i (by omega)
/-- Two boards side by side. -/
structure Side (w : World) (b M g b' M' g' n : Nat) (most : Int) (c c' : Nat → Int) (ks ks' : List (Int × Ow)) : Prop where
  l : BD w b M g n most c ks
  r : BD w b' M' g' n most c' ks'
  lr : ApartO b M g ks M' g'
  rl : ApartO b' M' g' ks' M g
theorem Side.new {w w' : World} {b M g b' M' g' n : Nat} {most : Int} {c c' : Nat → Int} {ks ks' : List (Int × Ow)} (h : Side w b M g b' M' g' n most c c' ks ks') (hm : Mod (fun _ => False) w w') : Side w' b M g b' M' g' n most c c' ks ks' := ⟨h.l.new hm, h.r.new hm, h.lr, h.rl⟩
theorem Side.left {w w2 : World} {b M g b' M' g' n : Nat} {most : Int} {c c' c2 : Nat → Int} {ks ks' : List (Int × Ow)} (h : Side w b M g b' M' g' n most c c' ks ks') {peer : Int} {x y : Nat} {f : Nat → Bool} (h2 : BD w2 b M g n most c2 (putL ks peer ⟨x, y, f⟩)) (hm : Mod (fun i => i = M ∨ i = g) w w2) (hx : w.heap.size ≤ x) (hy : w.heap.size ≤ y) : Side w2 b M g b' M' g' n most c2 c' (putL ks peer ⟨x, y, f⟩) ks' :=
  ⟨h2, h.r.mod hm (fun i hi e => by have := h.rl i hi; omega), h.lr.put (by have := h.r.lt (.inr (.inl rfl)); have := h.r.lt (.inr (.inr (.inl rfl))); omega), h.rl⟩
theorem Side.right {w w2 : World} {b M g b' M' g' n : Nat} {most : Int} {c c' c2 : Nat → Int} {ks ks' : List (Int × Ow)} (h : Side w b M g b' M' g' n most c c' ks ks') {peer : Int} {x y : Nat} {f : Nat → Bool} (h2 : BD w2 b' M' g' n most c2 (putL ks' peer ⟨x, y, f⟩)) (hm : Mod (fun i => i = M' ∨ i = g') w w2) (hx : w.heap.size ≤ x) (hy : w.heap.size ≤ y) : Side w2 b M g b' M' g' n most c c2 ks (putL ks' peer ⟨x, y, f⟩) :=
  ⟨h.l.mod hm (fun i hi e => by have := h.lr i hi; omega), h2, h.lr, h.rl.put (by have := h.l.lt (.inr (.inl rfl)); have := h.l.lt (.inr (.inr (.inl rfl))); omega)⟩
end Go.Proofs.YtfopglaagnbacaaDoor
