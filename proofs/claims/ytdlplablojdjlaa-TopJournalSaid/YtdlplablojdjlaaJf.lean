/- A map from the journal's two names to files: look-up, store, delete, length, range, copy; no condition. -/
import Derived.Test.YtdlplablojdjlaaJe
import Derived.StringKeys
import Derived.Maps.OwnSet
import Derived.Maps.RangeWalk
import Derived.Sort.MapsRangeIn
import Derived.Shelf.SlMaps.Clone
namespace Go.Proofs.Ytdlplablojdjlaa
open Go Go.RowKit
open Go.Maps (Keyed)

def kOf (o : Bool) : Lit := .string (nmOf o).data.toList
theorem same2 : ∀ o p : Bool, (kOf o).sameKey (kOf p) = (o == p) := by intro o p; cases o <;> cases p <;> decide +kernel
theorem before2 : ∀ o p : Bool, (kOf o).before (kOf p) = (!o && p) := by intro o p; cases o <;> cases p <;> decide +kernel
/-- What is there of a name. -/
abbrev MV := Bool → Option Value
def ent1 (o : Bool) (v : Option Value) : List (Lit × DataW Value) := match v with | some v => [(kOf o, .held v)] | none => []
def ents (M : MV) : List (Lit × DataW Value) := ent1 false (M false) ++ ent1 true (M true)
def cnt (M : MV) : Nat := (ents M).length
def toQ (M : MV) : DataW Value := .map (ents M)
def putM (M : MV) (o : Bool) (v : Value) : MV := fun p => if p = o then some v else M p
def delM (M : MV) (o : Bool) : MV := fun p => if p = o then none else M p
def RV : Value → Option (DataW Value × List MemPlace) := fun v => some (.held v, [])
theorem cnt_le (M : MV) : cnt M ≤ 2 := by
  unfold cnt ents
  cases M false <;> cases M true <;> simp [ent1]
theorem atKey_toQ (M : MV) (o : Bool) (z : Value) : (toQ M).atKey (kOf o) (.held z) = .held ((M o).getD z) := by
  unfold toQ DataW.atKey ents
  cases h0 : M false <;> cases h1 : M true <;> cases o <;> simp [ent1, same2, h0, h1, List.find?]
theorem has_toQ (M : MV) (o : Bool) : Maps.has (toQ M) (kOf o) = (M o).isSome := by
  unfold toQ Maps.has ents
  cases h0 : M false <;> cases h1 : M true <;> cases o <;> simp [ent1, same2, h0, h1]
theorem del_toQ (M : MV) (o : Bool) : (toQ M).del (kOf o) = toQ (delM M o) := by
  unfold toQ DataW.del ents delM
  cases h0 : M false <;> cases h1 : M true <;> cases o <;> simp [ent1, same2, List.filter]
theorem put_toQ (M : MV) (o : Bool) (v : Value) : (toQ M).put (kOf o) (.held v) = toQ (putM M o v) := by
  unfold toQ DataW.put ents putM
  cases h0 : M false <;> cases h1 : M true <;> cases o <;> simp [ent1, same2, before2, List.filter, DataW.insert]
theorem size_toQ (M : MV) : Maps.size (toQ M) = cnt M := rfl
/-- A key that is there is one of the two names. -/
theorem has_toQ_inv (M : MV) {k : Lit} (h : Maps.has (toQ M) k = true) : ∃ o, k = kOf o ∧ (M o).isSome := by
  unfold toQ Maps.has ents at h
  have hs : ∀ o, (kOf o).sameKey k = true → k = kOf o := fun o e => by
    unfold kOf at e ⊢
    cases k <;> simp [Lit.sameKey] at e
    rw [e]
  cases h0 : M false <;> cases h1 : M true <;> simp [ent1, h0, h1] at h
  · exact ⟨true, hs _ h, by rw [h1]; rfl⟩
  · exact ⟨false, hs _ h, by rw [h0]; rfl⟩
  · rcases h with h | h
    · exact ⟨false, hs _ h, by rw [h0]; rfl⟩
    · exact ⟨true, hs _ h, by rw [h1]; rfl⟩

/-- Block b is such a map. -/
def SMap (w : World) (b : Nat) (M : MV) : Prop := w.ownsMap Try.prog 9 RV b (cnt M) (toQ M)
theorem key_nm (o : Bool) : keyOf Try.prog 9 (.string (nmOf o)) = some (kOf o) := WideMaps.keyOf_string_mk Try.underlying9 (by cases o <;> decide)
section
variable {w : World} {b : Nat} {M : MV}
theorem SMap.lt (h : SMap w b M) : b < w.heap.size := World.ownsMap.lt h
theorem SMap.mod {S : Nat → Prop} {w' : World} (h : SMap w b M) (hm : Mod S w w') (hS : ¬ S b) : SMap w' b M := by
  have hlt := h.lt
  obtain ⟨es, clock, hb, r⟩ := h
  exact ⟨es, clock, (hm.block b hlt hS).trans hb, r⟩
theorem SMap.isMap (h : SMap w b M) : ∃ es c, w.heap[b]? = some (.map es c) := by
  obtain ⟨es, clock, hb, r⟩ := h
  exact ⟨es, clock, hb⟩
theorem SMap.made (w : World) : SMap (w.alloc (.map #[] 0)) w.heap.size (fun _ => none) := World.ownsMap_made w Try.prog 9 RV
theorem keyedS : Keyed Try.prog 9 := Maps.string_keyed Try.underlying9
theorem SMap.lookOk (h : SMap w b M) (o : Bool) :
    (Instr.lookup 45 (.map (some b)) (.string (nmOf o)) true).run Try.prog w = .ok (.tuple #[(M o).getD (.pointer none), .bool (M o).isSome]) w := by
  obtain ⟨v, ps, hrun, hv⟩ := World.ownsMap.look_ok h keyedS Try.underlying45 (Try.zeroValue72 w) (zd := .held (.pointer none)) (zp := []) rfl (key_nm o)
  rw [atKey_toQ] at hv
  simp only [RV, Option.some.injEq, Prod.mk.injEq, DataW.held.injEq] at hv
  rw [hrun, hv.1, has_toQ]
theorem SMap.len (h : SMap w b M) (ty : TypeId) : (Builtin.len_ #[45] ty #[.map (some b)]).run Try.prog w = .ok (.int .i64 (cnt M)) w := by
  rw [World.ownsMap.len h Try.underlying45 ty, size_toQ]
theorem smap_of {w' : World} {n : Nat} {M' : MV} (h : w'.ownsMap Try.prog 9 RV b n (toQ M')) : SMap w' b M' := by
  obtain ⟨es, clock, hb, F, hs, hD⟩ := h
  refine ⟨es, clock, hb, F, ?_, hD⟩
  have e := congrArg Maps.size hD
  rw [size_toQ] at e
  simp only [Maps.size, length_sorted, List.length_map, Array.length_toList] at e
  omega
theorem SMap.put (h : SMap w b M) (o : Bool) (v : Value) :
    ∃ w', (Instr.mapUpdate 45 (.map (some b)) (.string (nmOf o)) v).run Try.prog w = .ok () w' ∧ SMap w' b (putM M o v) ∧ Mod (· = b) w w' ∧ w'.heap.size = w.heap.size := by
  obtain ⟨w', hrun, ho, hturn⟩ := World.ownsMap.store h keyedS Try.underlying45 (by have := cnt_le M; unfold maxLen; omega) (key_nm o) (val := v) (d := .held v) (ps := []) rfl
  refine ⟨w', hrun, ?_, ?_, ?_⟩
  · rw [put_toQ] at ho
    exact smap_of ho
  · have g := hturn.grown
    exact ⟨g.os, g.tape, g.output, g.size, fun k hk hs => g.block k hk (fun e => hs (by simpa using e))⟩
  · obtain ⟨es, clock, es', clock', hb, rfl⟩ := hturn
    simp [ChangeMaps.setBlock]
theorem SMap.del (h : SMap w b M) (o : Bool) (ty : TypeId) :
    ∃ w', (Builtin.delete_ #[45, 9] ty #[.map (some b), .string (nmOf o)]).run Try.prog w = .ok (.tuple #[]) w' ∧ SMap w' b (delM M o) ∧ Mod (· = b) w w' ∧ w'.heap.size = w.heap.size := by
  obtain ⟨w', hrun, ho, hturn⟩ := World.ownsMap.drop h keyedS Try.underlying45 (key_nm o) ty
  refine ⟨w', hrun, ?_, ?_, ?_⟩
  · rw [del_toQ] at ho
    exact smap_of ho
  · have g := hturn.grown
    exact ⟨g.os, g.tape, g.output, g.size, fun k hk hs => g.block k hk (fun e => hs (by simpa using e))⟩
  · obtain ⟨es, clock, es', clock', hb, rfl⟩ := hturn
    simp [ChangeMaps.setBlock]
set_option maxRecDepth 100000 in
set_option maxHeartbeats 400000 in
theorem jClones (h : SMap w b M) : Calls Try.prog 71 #[.map (some b)] w fun e w' => e = .returned (.map (some w.heap.size)) ∧ SMap w' w.heap.size M ∧ Mod (fun _ => False) w w' := by
  have hq := fun w => run_eql_map_nil_sl (P := Try.prog) w 45 _ _ (some b) Try.underlying45
  obtain ⟨es, clock, hb, r⟩ := h
  have HR := Lib.hid r
  clear r
  go_enter Try.func71, Try.ntmps71
  go_wp2_with fail
  rw [run_callFunc_extern Try.func76 (by kernel_rfl) (by kernel_rfl) (by kernel_rfl) (e := Extern.MapsClone.clone) (by kernel_rfl), run_maps_clone_sl w 45 hb]
  simp only [Result.andThen]
  rw [Oper.upon_value]
  go_wp2_with fail
  rw [run_typeAssert_map_sl _ 45 20 _ _ _ Try.underlying45]
  simp only [Result.andThen]
  rw [Oper.upon_value]
  go_wp2_with fail
  go_ret
  exact ⟨rfl, ⟨es, clock, (MapKept.heap_alloc w _).1, HR.out⟩, (Mod.refl _ w).alloc _⟩
/-- Under way over map b, by iterator r: T tells what is yet to come. -/
def SRange (w : World) (b r : Nat) (M : MV) (T : Bool → Bool) : Prop := ∃ left c, w.ranges Try.prog 9 RV b r (cnt M) (toQ M) left c ∧ ∀ o, T o = left (kOf o)
theorem SRange.new {w' : World} {r : Nat} {T : Bool → Bool} (h : SRange w b r M T) {S : Nat → Prop} (hm : Mod S w w') (hb : ¬ S b) (hr : ¬ S r) : SRange w' b r M T := by
  obtain ⟨left, c, h1, h2⟩ := h
  refine ⟨left, c, ?_, h2⟩
  obtain ⟨es, clock, since, seen, c0, g1, g2, g3, g4, g5, g6⟩ := h1
  exact ⟨es, clock, since, seen, c0, hm.heap g1 hb, g2, g3, g4, hm.heap g5 hr, g6⟩
theorem SRange.leftM {w' : World} {r : Nat} {T : Bool → Bool} (h : SRange w b r M T) {S : Nat → Prop} (hm : Mod S w w') (hb : ¬ S b) (hr : ¬ S r) : w'.rangeLeft b r = w.rangeLeft b r := by
  obtain ⟨left, c, h1, h2⟩ := h
  obtain ⟨es, clock, since, seen, c0, g1, _, _, _, g5, _⟩ := h1
  unfold World.rangeLeft
  rw [hm.heap g1 hb, hm.heap g5 hr, g1, g5]
variable {ops : Array Oper} {rest : List Oper} {o : Oper} {a : Act} {Q : Exit → Act → World → Prop}
theorem srange_start (hg : o.guard = none) (m : Operand) (hop : o.op = Op.range 45 m) (hm : a.eval m = .map (some b)) (h : SMap w b M)
    (hN : ∀ w', SRange w' b w.heap.size M (fun o => (M o).isSome) → Mod (fun _ => False) w w' → w'.heap.size = w.heap.size + 1 → wpList Try.prog ops Q rest (a.put o.dst (.pointer (some ⟨w.heap.size, 0, none⟩))) w') : wpList Try.prog ops Q (o :: rest) a w :=
  wpList_range_own w hg m 45 hop 9 72 keyedS Try.underlying45 RV b _ _ hm h fun w' h1 h2 h3 => hN w' ⟨_, _, h1, fun o => (has_toQ M o).symm⟩ ⟨h2.os, h2.tape, h2.output, h2.size, fun k hk _ => h2.block k hk (by simp)⟩ h3
/-- (Words that simp leaves whole.) -/
def NoT (T : Bool → Bool) : Prop := ∀ o, T o = false
def AllB (Q : Bool → Prop) : Prop := ∀ x, Q x
theorem srange_next {r : Nat} {T : Bool → Bool} (hg : o.guard = none) (it : Operand) (hop : o.op = Op.next it false) (hit : a.eval it = .pointer (some ⟨r, 0, none⟩)) (h : SRange w b r M T)
    (hDone : NoT T → wpList Try.prog ops Q rest (a.put o.dst (.tuple #[.bool false])) w)
    (hMore : AllB fun x => ∀ (c : Value) (w' : World), T x = true → M x = some c → SRange w' b r M (fun o => T o && !(o == x)) → w'.rangeLeft b r < w.rangeLeft b r → Mod (· = r) w w' → w'.heap.size = w.heap.size →
      (Instr.entry (.pointer (some ⟨r, 0, none⟩))).run Try.prog w' = .ok (.tuple #[.string (nmOf x), c]) w' → wpList Try.prog ops Q rest (a.put o.dst (.tuple #[.bool true, .string (nmOf x), c])) w') : wpList Try.prog ops Q (o :: rest) a w := by
  obtain ⟨left, cn, h1, h2⟩ := h
  refine wpList_next_ranges w hg it hop 9 keyedS RV Value.string id (fun key kl hk => Maps.keyOf_string_inv Try.underlying9 hk) (fun v _ _ => ⟨v, rfl⟩) b r _ _ left cn hit h1 (fun _ hl => hDone (fun o => by rw [h2, hl])) ?_
  intro x c kl y w' cnt' hkey hlk hv hat hrg hlt hgr hsz hen
  cases hv
  have hhas : Maps.has (toQ M) kl = true := by
    cases hh : Maps.has (toQ M) kl with
    | true => rfl
    | false =>
      exfalso
      have e : ∀ zd, (toQ M).atKey kl zd = zd := fun zd => by
        unfold toQ DataW.atKey
        unfold toQ Maps.has at hh
        dsimp only at hh ⊢
        rw [List.any_eq_false] at hh
        rw [List.find?_eq_none.2 (fun p hp => by simpa using hh p hp)]
      have e1 := hat (.held (.bool true))
      have e2 := hat (.held (.bool false))
      rw [e] at e1 e2
      rw [← e2] at e1
      simp at e1
  obtain ⟨q, rfl, hq⟩ := has_toQ_inv M hhas
  obtain ⟨v, hv⟩ := Option.isSome_iff_exists.1 hq
  have hc := hat (.held (.bool true))
  rw [atKey_toQ, hv] at hc
  simp only [Option.getD_some, DataW.held.injEq, id] at hc
  subst hc
  have hx : x = nmOf q := by
    rw [keyOf_string Try.underlying9] at hkey
    simp [mapKey, kOf, Try.underlying9] at hkey
    obtain ⟨_, e⟩ := hkey
    cases x with | mk d =>
    have e2 : d = (nmOf q).data := e
    rw [e2]
  subst hx
  refine hMore q v w' (by rw [h2]; exact hlk) hv ⟨_, _, hrg, fun o => ?_⟩ (by rw [hrg.left_eq, h1.left_eq]; exact hlt) ⟨hgr.os, hgr.tape, hgr.output, hgr.size, fun k hk hs => hgr.block k hk (fun e => hs (Option.some.inj e))⟩ hsz hen
  dsimp only
  rw [h2, same2]
end
end Go.Proofs.Ytdlplablojdjlaa
