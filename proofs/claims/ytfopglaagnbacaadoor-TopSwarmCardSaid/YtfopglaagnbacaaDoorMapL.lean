/- A map with int keys as a sorted list of pairs: look-up, store, delete, length, as laws on the model's runs; for every map of fewer than 2^63 entries. -/
import Derived.WalkKit
import Derived.Maps.OwnSet
import Derived.Test.YtfopglaagnbacaaDoorKit
namespace Go.Proofs.YtfopglaagnbacaaDoor
open Go Go.RowKit
open Go.Maps (Keyed)

section
variable {α : Type}
def insS (x : Int × α) : List (Int × α) → List (Int × α)
  | [] => [x]
  | y :: r => if x.1 < y.1 then x :: y :: r else y :: insS x r
def delL (l : List (Int × α)) (k : Int) : List (Int × α) := l.filter fun p => p.1 ≠ k
def putL (l : List (Int × α)) (k : Int) (v : α) : List (Int × α) := insS (k, v) (delL l k)
def lkL (l : List (Int × α)) (k : Int) : Option α := (l.find? fun p => p.1 == k).map (·.2)
def keysL (l : List (Int × α)) : List Int := l.map (·.1)
def Rising (l : List (Int × α)) : Prop := l.Pairwise fun p q => p.1 < q.1

theorem mem_insS {x p : Int × α} : ∀ {l : List (Int × α)}, p ∈ insS x l ↔ p = x ∨ p ∈ l
  | [] => by simp [insS]
  | y :: r => by
    unfold insS
    split
    · simp
    · simp only [List.mem_cons, mem_insS (l := r)]
      constructor
      · rintro (h | h | h) <;> simp [h]
      · rintro (h | h | h) <;> simp [h]
theorem rising_insS {x : Int × α} : ∀ {l : List (Int × α)}, Rising l → (∀ p ∈ l, p.1 ≠ x.1) → Rising (insS x l)
  | [], _, _ => List.pairwise_singleton _ _
  | y :: r, h, hne => by
    obtain ⟨h1, h2⟩ := List.pairwise_cons.1 h
    unfold insS
    split
    · rename_i hlt
      refine List.pairwise_cons.2 ⟨fun q hq => ?_, h⟩
      rcases List.mem_cons.1 hq with rfl | hq
      · exact hlt
      · exact Int.lt_trans hlt (h1 q hq)
    · rename_i hlt
      refine List.pairwise_cons.2 ⟨fun q hq => ?_, rising_insS h2 fun p hp => hne p (List.mem_cons_of_mem _ hp)⟩
      rcases mem_insS.1 hq with rfl | hq
      · have := hne y (List.mem_cons_self ..); omega
      · exact h1 q hq
theorem rising_del {l : List (Int × α)} (h : Rising l) (k : Int) : Rising (delL l k) := h.filter _
theorem rising_put {l : List (Int × α)} (h : Rising l) (k : Int) (v : α) : Rising (putL l k v) :=
  rising_insS (rising_del h k) fun p hp => by simpa [delL] using (List.mem_filter.1 hp).2
theorem length_insS (x : Int × α) : ∀ l : List (Int × α), (insS x l).length = l.length + 1
  | [] => rfl
  | y :: r => by
    unfold insS
    split
    · rfl
    · simp [length_insS x r]
theorem lk_insS (x : Int × α) (k : Int) : ∀ l : List (Int × α), (∀ p ∈ l, p.1 ≠ x.1) → lkL (insS x l) k = if x.1 = k then some x.2 else lkL l k
  | [], _ => by
    unfold insS lkL
    by_cases h : x.1 = k <;> simp [h]
  | y :: r, hne => by
    have ih := lk_insS x k r fun p hp => hne p (List.mem_cons_of_mem _ hp)
    have hy := hne y (List.mem_cons_self ..)
    unfold insS
    split
    · unfold lkL
      by_cases h : x.1 = k <;> simp [h]
    · unfold lkL at ih ⊢
      rw [List.find?_cons, List.find?_cons]
      by_cases h : y.1 = k
      · have : x.1 ≠ k := fun e => hy (h.trans e.symm)
        simp [h, this]
      · simp only [beq_eq_false_iff_ne.2 h]
        exact ih
theorem lk_del (l : List (Int × α)) (k j : Int) : lkL (delL l k) j = if j = k then none else lkL l j := by
  unfold lkL delL
  rw [List.find?_filter]
  by_cases h : j = k
  · subst h
    rw [if_pos rfl, Option.map_eq_none_iff, List.find?_eq_none]
    intro p _ hp
    simp at hp
  · rw [if_neg h]
    congr 1
    congr 1
    funext p
    by_cases e : p.1 = j
    · subst e; simp [h]
    · simp [e]
theorem lk_put (l : List (Int × α)) (k : Int) (v : α) (j : Int) : lkL (putL l k v) j = if j = k then some v else lkL l j := by
  unfold putL
  rw [lk_insS _ _ _ (fun p hp => by simpa [delL] using (List.mem_filter.1 hp).2), lk_del]
  by_cases h : j = k
  · simp [h]
  · rw [if_neg (Ne.symm h), if_neg h, if_neg h]
theorem lk_none {l : List (Int × α)} {k : Int} : lkL l k = none ↔ ∀ p ∈ l, p.1 ≠ k := by
  unfold lkL
  simp [List.find?_eq_none]
theorem lk_some_mem {l : List (Int × α)} {k : Int} {v : α} (h : lkL l k = some v) : (k, v) ∈ l := by
  unfold lkL at h
  obtain ⟨p, hp, rfl⟩ := Option.map_eq_some_iff.1 h
  have h1 := List.mem_of_find?_eq_some hp
  have h2 := List.find?_some hp
  simp at h2
  subst h2
  exact h1
theorem lk_of_mem {l : List (Int × α)} (hr : Rising l) {k : Int} {v : α} (h : (k, v) ∈ l) : lkL l k = some v := by
  induction l with
  | nil => cases h
  | cons y r ih =>
    obtain ⟨h1, h2⟩ := List.pairwise_cons.1 hr
    unfold lkL
    rw [List.find?_cons]
    rcases List.mem_cons.1 h with rfl | h
    · simp
    · have := h1 _ h
      have e : (y.1 == k) = false := by simp at this ⊢; omega
      rw [e]
      exact ih h2 h
theorem del_of_none {l : List (Int × α)} {k : Int} (h : lkL l k = none) : delL l k = l := by
  unfold delL
  rw [List.filter_eq_self]
  intro p hp
  simpa using lk_none.1 h p hp
end

/-! ### In memory -/
def RV : Value → Option (DataW Value × List MemPlace) := fun v => some (.held v, [])
def toD (l : List (Int × Value)) : DataW Value := .map (l.map fun p => (.int .i64 p.1, .held p.2))
def I64 (k : Int) : Prop := (Lit.int .i64 k).wf = true

/-- Block b is a map with int keys (their type: K): the pairs l, by rising keys. -/
structure IMap (P : Program) (K : TypeId) (w : World) (b : Nat) (l : List (Int × Value)) : Prop where
  rising : Rising l
  owns : w.ownsMap P K RV b l.length (toD l)

section
variable {P : Program} {K T E : TypeId} {w : World} {b : Nat} {l : List (Int × Value)}

theorem IMap.made (P : Program) (K : TypeId) (w : World) : IMap P K (w.alloc (.map #[] 0)) w.heap.size [] := ⟨List.Pairwise.nil, World.ownsMap_made w P K RV⟩
theorem IMap.lt (h : IMap P K w b l) : b < w.heap.size := h.owns.lt
theorem IMap.mod {S : Nat → Prop} {w' : World} (h : IMap P K w b l) (hm : Mod S w w') (hS : ¬ S b) : IMap P K w' b l := by
  refine ⟨h.rising, ?_⟩
  have hlt := h.lt
  obtain ⟨es, clock, hb, r⟩ := h.owns
  exact ⟨es, clock, (hm.block b hlt hS).trans hb, r⟩
theorem IMap.below {B : Nat} {w' : World} (h : IMap P K w b l) (hm : Below B w w') (hS : b < B) : IMap P K w' b l := by
  refine ⟨h.rising, ?_⟩
  obtain ⟨es, clock, hb, r⟩ := h.owns
  exact ⟨es, clock, (hm.block b hS).trans hb, r⟩
theorem IMap.alloc (h : IMap P K w b l) (o : Obj) : IMap P K (w.alloc o) b l := ⟨h.rising, h.owns.alloc o⟩
theorem IMap.drewN (h : IMap P K w b l) (n : Nat) : IMap P K (w.drewN n) b l := ⟨h.rising, h.owns⟩
theorem IMap.setCell (h : IMap P K w b l) {a : Addr} (ha : b ≠ a.block) (u : Value) : IMap P K (w.setCell a u) b l := ⟨h.rising, h.owns.setCell ha u⟩

theorem find_toD (k : Int) : ∀ l : List (Int × Value), (l.map fun p => ((Lit.int .i64 p.1, DataW.held p.2) : Lit × DataW Value)).find? (fun p => p.1.sameKey (.int .i64 k)) = (l.find? fun p => p.1 == k).map fun p => (.int .i64 p.1, .held p.2)
  | [] => rfl
  | y :: r => by
    rw [List.map_cons, List.find?_cons, List.find?_cons, find_toD k r]
    have e : Lit.sameKey (.int .i64 y.1) (.int .i64 k) = (y.1 == k) := by
      simp [Lit.sameKey]
      by_cases h : y.1 = k <;> simp [h]
    simp only [e]
    cases (y.1 == k) <;> rfl
theorem atKey_toD (l : List (Int × Value)) (k : Int) (z : Value) : (toD l).atKey (.int .i64 k) (.held z) = .held ((lkL l k).getD z) := by
  unfold toD DataW.atKey lkL
  simp only [find_toD]
  cases l.find? fun p => p.1 == k <;> rfl
theorem has_toD (l : List (Int × Value)) (k : Int) : Maps.has (toD l) (.int .i64 k) = (lkL l k).isSome := by
  unfold toD Maps.has lkL
  dsimp only
  rw [List.any_map, Option.isSome_map, Bool.eq_iff_iff, List.find?_isSome, List.any_eq_true]
  constructor
  · rintro ⟨p, hp, h⟩
    exact ⟨p, hp, by simpa [Lit.sameKey] using h⟩
  · rintro ⟨p, hp, h⟩
    exact ⟨p, hp, by simpa [Lit.sameKey] using h⟩
theorem del_toD (l : List (Int × Value)) (k : Int) : (toD l).del (.int .i64 k) = toD (delL l k) := by
  unfold toD DataW.del delL
  dsimp only
  rw [List.filter_map]
  congr 2
  refine List.filter_congr fun p _ => ?_
  simp [Lit.sameKey]
theorem insert_toD (k : Int) (v : Value) : ∀ l : List (Int × Value), DataW.insert ((Lit.int .i64 k, DataW.held v) : Lit × DataW Value) (l.map fun p => (.int .i64 p.1, .held p.2)) = (insS (k, v) l).map fun p => (.int .i64 p.1, .held p.2)
  | [] => rfl
  | y :: r => by
    rw [List.map_cons]
    unfold DataW.insert insS
    have e : Lit.before (.int .i64 k) (.int .i64 y.1) = decide (k < y.1) := rfl
    simp only [e]
    by_cases h : k < y.1
    · simp [h]
    · simp only [h, decide_false, if_false, Bool.false_eq_true, List.map_cons, insert_toD k v r]
theorem put_toD (l : List (Int × Value)) (k : Int) (v : Value) : (toD l).put (.int .i64 k) (.held v) = toD (putL l k v) := by
  have e := del_toD l k
  unfold toD DataW.del at e
  simp only [DataW.map.injEq] at e
  unfold toD DataW.put putL
  simp only [e, insert_toD]

theorem key_int (hK : P.underlying K = some (.int .i64)) {k : Int} (hk : I64 k) : keyOf P K (.int .i64 k) = some (.int .i64 k) := Maps.keyOf_int_mk hK hk

/-- 'm[k]'. -/
theorem IMap.look (h : IMap P K w b l) (hK : P.underlying K = some (.int .i64)) (hT : P.underlying T = some (.map K E)) {z : Value} (hz : (zeroValue E).run P w = .ok z w) {k : Int} (hk : I64 k) :
    (Instr.lookup T (.map (some b)) (.int .i64 k) false).run P w = .ok ((lkL l k).getD z) w := by
  obtain ⟨v, ps, hrun, hv⟩ := h.owns.lookup (Maps.int_keyed hK) hT hz (zd := .held z) (zp := []) rfl (key_int hK hk)
  rw [atKey_toD] at hv
  simp only [RV, Option.some.injEq, Prod.mk.injEq, DataW.held.injEq] at hv
  rw [hrun, hv.1]
/-- 'v, ok := m[k]'. -/
theorem IMap.lookOk (h : IMap P K w b l) (hK : P.underlying K = some (.int .i64)) (hT : P.underlying T = some (.map K E)) {z : Value} (hz : (zeroValue E).run P w = .ok z w) {k : Int} (hk : I64 k) :
    (Instr.lookup T (.map (some b)) (.int .i64 k) true).run P w = .ok (.tuple #[(lkL l k).getD z, .bool (lkL l k).isSome]) w := by
  obtain ⟨v, ps, hrun, hv⟩ := h.owns.look_ok (Maps.int_keyed hK) hT hz (zd := .held z) (zp := []) rfl (key_int hK hk)
  rw [atKey_toD] at hv
  simp only [RV, Option.some.injEq, Prod.mk.injEq, DataW.held.injEq] at hv
  rw [hrun, hv.1, has_toD]
/-- 'm[k] = v'. -/
theorem IMap.put (h : IMap P K w b l) (hK : P.underlying K = some (.int .i64)) (hT : P.underlying T = some (.map K E)) (hn : l.length < maxLen) {k : Int} (hk : I64 k) (v : Value) :
    ∃ w', (Instr.mapUpdate T (.map (some b)) (.int .i64 k) v).run P w = .ok () w' ∧ IMap P K w' b (putL l k v) ∧ Mod (· = b) w w' ∧ w'.heap.size = w.heap.size := by
  obtain ⟨w', hrun, ho, hturn⟩ := h.owns.store (Maps.int_keyed hK) hT hn (key_int hK hk) (val := v) (d := .held v) (ps := []) rfl
  refine ⟨w', hrun, ⟨rising_put h.rising k v, ?_⟩, ?_, ?_⟩
  · rw [put_toD] at ho
    obtain ⟨es, clock, hb, F, hs, hD⟩ := ho
    refine ⟨es, clock, hb, F, ?_, hD⟩
    have e := congrArg Maps.size hD
    simp only [toD, Maps.size, length_sorted, List.length_map, Array.length_toList] at e
    omega
  · have g := hturn.grown
    exact ⟨g.os, g.tape, g.output, g.size, fun k hk hs => g.block k hk (fun e => hs (by simpa using e))⟩
  · obtain ⟨es, clock, es', clock', hb, rfl⟩ := hturn
    simp [ChangeMaps.setBlock]
/-- 'delete(m, k)'. -/
theorem IMap.del (h : IMap P K w b l) (hK : P.underlying K = some (.int .i64)) (hT : P.underlying T = some (.map K E)) (ty : TypeId) {k : Int} (hk : I64 k) :
    ∃ w', (Builtin.delete_ #[T, K] ty #[.map (some b), .int .i64 k]).run P w = .ok (.tuple #[]) w' ∧ IMap P K w' b (delL l k) ∧ Mod (· = b) w w' ∧ w'.heap.size = w.heap.size := by
  obtain ⟨w', hrun, ho, hturn⟩ := h.owns.drop (Maps.int_keyed hK) hT (key_int hK hk) ty
  refine ⟨w', hrun, ⟨rising_del h.rising k, ?_⟩, ?_, ?_⟩
  · rw [del_toD] at ho
    obtain ⟨es, clock, hb, F, hs, hD⟩ := ho
    refine ⟨es, clock, hb, F, ?_, hD⟩
    have e := congrArg Maps.size hD
    simp only [toD, Maps.size, length_sorted, List.length_map, Array.length_toList] at e
    omega
  · have g := hturn.grown
    exact ⟨g.os, g.tape, g.output, g.size, fun k hk hs => g.block k hk (fun e => hs (by simpa using e))⟩
  · obtain ⟨es, clock, es', clock', hb, rfl⟩ := hturn
    simp [ChangeMaps.setBlock]
/-- 'len(m)'. -/
theorem IMap.len (h : IMap P K w b l) (hT : P.underlying T = some (.map K E)) (ty : TypeId) : (Builtin.len_ #[T] ty #[.map (some b)]).run P w = .ok (.int .i64 l.length) w := by
  rw [h.owns.len hT ty]
  simp [toD, Maps.size]
end
end Go.Proofs.YtfopglaagnbacaaDoor
