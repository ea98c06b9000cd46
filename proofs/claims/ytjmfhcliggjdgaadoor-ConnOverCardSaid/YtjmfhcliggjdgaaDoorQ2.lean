/- Texts of this claim, laid together by a program of its own: Row, RegO, Open, KeysL, MapV, Range, FlA, FlB, FlC, FlD, FlE, FlF, FwA, BitsM, BitsA, BitsB, BitsS, BitsR, Pop. Each says in its first row what it proves. -/
import Derived.Maps.AppendAt
import Derived.Laws.CopyRow
import Derived.Deep.Slices
import Derived.Deep.Fields
import Derived.ChangeSame
import Derived.Deep.Onto
import Derived.Maps.RangeWalk
import Derived.Test.YtjmfhcliggjdgaaDoorRows
import Derived.Deep.QuietTactic
import Derived.BigQuiet
import Derived.WalkKit
import Derived.Laws.Bits64
import Derived.Laws.Bits64b
import Derived.WalkSpells
import Derived.WalkLawsBesides
import Derived.Lib.Hide
import Derived.Laws.MakeOwn
import Derived.Laws.BytesString
import Derived.Laws.Cells
import Derived.Test.YtjmfhcliggjdgaaDoorQ1
/- 'append' to a slice of the call's own: where the new slice lies; in regions that draw their order too; no condition. -/
namespace Go.Proofs.YtjmfhcliggjdgaaDoor
open Go Go.RowKit

section
variable {P : Program}
theorem run_app {w : World} {base : Nat} (t ty e : TypeId) (size : Nat) (ht : P.underlying t = some (.slice e)) {z : Value} {bytes : Nat} (hi : (P.info? e).map (fun i => (i.zero, i.size, i.bytes)) = some (some z, size, bytes)) (hzs : z.cells.size = size) (h0 : 0 < size)
    (v : Value) (n : Nat) (xs : List Value) (sv : Value) (m : Nat) (news : List Value) (hbase : base ≤ w.heap.size) (hown : w.ownsRow base e size v n xs) (hnews : Sl w sv size m news)
    (h1 : ∀ u ∈ news, u.oneCell' = true) (hb0 : 0 < bytes) (hbytes : (n + m) * bytes ≤ 140737488355328) :
    ∃ v' w', (Builtin.append_ #[t, t] ty #[v, sv]).run P w = .ok v' w' ∧ w'.ownsRow base e size v' (n + m) (xs ++ news) ∧ Mod (fun i => v.ownBlock = some i) w w' ∧ (v'.ownBlock = v.ownBlock ∨ v'.ownBlock = some w.heap.size) := by
  obtain ⟨i0, hi, hz0, hz1, hz2⟩ := info_parts hi
  rcases hnews with ⟨rfl, rfl, rfl⟩ | ⟨ad, c, rfl, hl, hc⟩
  · exact ⟨v, w, run_append_owned_none (P := P) (w := w) base t ty e i0 size ht hi v n xs hown, by simpa using hown, Mod.refl _ w, .inl rfl⟩
  · have h63 : n + m ≤ maxLen := by
      have : n + m ≤ (n + m) * bytes := Nat.le_mul_of_pos_right _ hb0
      unfold maxLen; omega
    obtain ⟨v', w', hr, h2, h3, _, h5⟩ := run_append_own_at (P := P) w base t ty e i0 z size bytes ht hi hz0 hz1 hz2 hzs h0 v n xs hown ad m c news hl hc h1 h63 hbytes hbase
    exact ⟨v', w', hr, h2, (Mod.refl _ w).grown h3 fun k hk => .inl hk, h5⟩
/-- 'append(v, sv...)'. -/
theorem app1 {w : World} {base : Nat} {ops : Array Oper} {rest : List Oper} {o : Oper} {a : Act} {Q : Exit → Act → World → Prop} (hgd : o.guard = none) (s x : Operand) (t e : TypeId) (size : Nat)
    (ho : o.op = .call { callee := .builtin .append, args := #[s, x], argTypes := #[t, t] }) (ht : P.underlying t = some (.slice e)) {z : Value} {bytes : Nat} (hi : (P.info? e).map (fun i => (i.zero, i.size, i.bytes)) = some (some z, size, bytes)) (hzs : z.cells.size = size) (h0 : 0 < size)
    (v : Value) (n : Nat) (xs : List Value) (sv : Value) (m : Nat) (news : List Value) (hbase : base ≤ w.heap.size) (hown : w.ownsRow base e size v n xs) (hs : a.eval s = v) (hx : a.eval x = sv) (hnews : Sl w sv size m news)
    (h1 : ∀ u ∈ news, u.oneCell' = true) (hb0 : 0 < bytes) (hbytes : (n + m) * bytes ≤ 140737488355328)
    (h : ∀ v' w', w'.ownsRow base e size v' (n + m) (xs ++ news) → Mod (fun i => v.ownBlock = some i) w w' → (v'.ownBlock = v.ownBlock ∨ v'.ownBlock = some w.heap.size) → wpList P ops Q rest (a.put o.dst v') w') : wpList P ops Q (o :: rest) a w := by
  obtain ⟨v', w', hr, h2, h3, h4⟩ := run_app (P := P) t o.type e size ht hi hzs h0 v n xs sv m news hbase hown hnews h1 hb0 hbytes
  refine wpList_plain hgd fun K hK => ?_
  unfold Oper.wp execOp
  simp only [ho, resolve, invoke, builtin, Sem.run_bind, Sem.run_pure, Result.andThen_ok, List.map_toArray, List.map_cons, List.map_nil, hs, hx, hr]
  exact hK _ _ (h v' w' h2 h3 h4)
/-- .. in a region that draws its order (kind 2). -/
theorem reg_app {ops : Array Oper} {S : World → Prop} {ov : List (Nat × Nat)} {rd : List FuncId} {Q : World → Act → Prop} {i : Nat} {o : Oper} {rest : List Oper} {w : World} {a : Act} {base : Nat}
    (hk : kd ov rd i o = 2) (hw : Region.wanted o (yielded ops a.tmps) = true) (s x : Operand) (t e : TypeId) (size : Nat)
    (ho : o.op = .call { callee := .builtin .append, args := #[s, x], argTypes := #[t, t] }) (ht : P.underlying t = some (.slice e)) {z : Value} {bytes : Nat} (hi : (P.info? e).map (fun i => (i.zero, i.size, i.bytes)) = some (some z, size, bytes)) (hzs : z.cells.size = size) (h0 : 0 < size)
    (v : Value) (n : Nat) (xs : List Value) (sv : Value) (m : Nat) (news : List Value) (hbase : base ≤ w.heap.size) (hown : w.ownsRow base e size v n xs) (hs : a.eval s = v) (hx : a.eval x = sv) (hnews : Sl w sv size m news)
    (h1 : ∀ u ∈ news, u.oneCell' = true) (hb0 : 0 < bytes) (hbytes : (n + m) * bytes ≤ 140737488355328)
    (h : ∀ v' w', w'.ownsRow base e size v' (n + m) (xs ++ news) → Mod (fun i => v.ownBlock = some i) w w' → (v'.ownBlock = v.ownBlock ∨ v'.ownBlock = some w.heap.size) → (∀ m, S (w'.drewN m)) ∧ wpReg P ops S ov rd Q (i + 1) rest w' (a.put o.dst v')) : wpReg P ops S ov rd Q i (o :: rest) w a := by
  refine reg_effS hk fun rn K hK => ?_
  obtain ⟨v', w', hr, h2, h3, h4⟩ := run_app (P := P) (w := w.drewN rn) t o.type e size ht hi hzs h0 v n xs sv m news hbase (by
    obtain ⟨o1, o2⟩ := hown
    rcases o2 with o2 | ⟨g, cap, cur, hv, hb, hh, rest⟩
    · exact ⟨o1, .inl o2⟩
    · exact ⟨o1, .inr ⟨g, cap, cur, hv, hb, hh, rest⟩⟩) (hnews.drewN rn) h1 hb0 hbytes
  unfold eOf
  rw [if_pos hw]
  unfold execOp
  simp only [ho, resolve, invoke, builtin, Sem.run_bind, Sem.run_pure, Result.andThen_ok, List.map_toArray, List.map_cons, List.map_nil, hs, hx, hr]
  exact hK _ _ (h v' w' h2 h3.undrew h4)
/-- 'append' to a slice of no room: what was there stays as it is. -/
theorem run_app0 {w : World} {base : Nat} (t ty e : TypeId) (size : Nat) (ht : P.underlying t = some (.slice e)) {z : Value} {bytes : Nat} (hi : (P.info? e).map (fun i => (i.zero, i.size, i.bytes)) = some (some z, size, bytes)) (hzs : z.cells.size = size) (h0 : 0 < size)
    (g : Nat) (sv : Value) (m : Nat) (news : List Value) (hbase : base ≤ g) (hg : Blk w g #[] e) (hnews : Sl w sv size m news)
    (h1 : ∀ u ∈ news, u.oneCell' = true) (hb0 : 0 < bytes) (hbytes : m * bytes ≤ 140737488355328) :
    ∃ v' w', (Builtin.append_ #[t, t] ty #[.slice (some ⟨g, 0, none⟩) 0 0, sv]).run P w = .ok v' w' ∧ w'.ownsRow base e size v' m news ∧ Mod (fun _ => False) w w' ∧ (v'.ownBlock = some g ∨ v'.ownBlock = some w.heap.size) := by
  obtain ⟨i0, hi', hz0, hz1, hz2⟩ := info_parts hi
  have hown : w.ownsRow base e size (.slice (some ⟨g, 0, none⟩) 0 0) 0 [] := ⟨by simp, .inr ⟨g, 0, #[], rfl, hbase, hg, Nat.le_refl _, Nat.zero_le _, by simp, by simp⟩⟩
  rcases hnews with ⟨rfl, rfl, rfl⟩ | ⟨ad, c, rfl, hl, hc⟩
  · exact ⟨_, w, run_append_owned_none (P := P) (w := w) base t ty e i0 size ht hi' _ 0 [] hown, hown, Mod.refl _ w, .inl rfl⟩
  · have h63 : m ≤ maxLen := by
      have : m ≤ m * bytes := Nat.le_mul_of_pos_right _ hb0
      unfold maxLen; omega
    by_cases hm : m = 0
    · subst hm
      have hn : news = [] := List.eq_nil_of_length_eq_zero (by simpa using hl)
      subst hn
      have hr := run_append_room (P := P) w t ty e i0 ht hi' g 0 0 #[] hg ad 0 c [] (by simp) hc h1 (Nat.le_refl _) (by simp)
      simp only [Nat.zero_mul, List.take_nil, List.nil_append, List.drop_nil, Nat.add_zero] at hr
      rw [setRow_self w g #[] e (0, 0) hg] at hr
      exact ⟨_, w, hr, hown, Mod.refl _ w, .inl rfl⟩
    · subst hz1
      subst hz2
      have hr := run_append_grow (P := P) w t ty e i0 z ht hi' hz0 ⟨g, 0, none⟩ 0 0 [] (by simp) (fun j u h => by simp at h) ad m c news hl hc (by omega) (by unfold maxLen at h63; omega) (growslice_fits (by omega) (by simpa using hbytes))
      have hgr : (w.drew.alloc (.cells (#[] ++ news.toArray ++ Builtin.zeroCells z.cells (grownCap w (0 + m) 0 e - (0 + m))) e)).ownsRow base e i0.size (.slice (some ⟨w.heap.size, 0, none⟩) (0 + m) (grownCap w (0 + m) 0 e)) m news := by
        have hge := grownCap_ge w (0 + m) 0 e
        have hcm : grownCap w (0 + m) 0 e ≤ maxLen := grownCap_le_maxLen w (0 + m) 0 e (by omega)
        refine ⟨hl, .inr ⟨w.heap.size, grownCap w (0 + m) 0 e, _, by simp, Nat.le_of_lt (Nat.lt_of_le_of_lt hbase hg.lt), heap_alloc_new w.drew _, by omega, hcm, ?_, ?_⟩⟩
        · simp only [Array.size_append, List.size_toArray, size_zeroCells, hzs, hl]
          generalize grownCap w (0 + m) 0 e = G at hge ⊢
          rw [List.length_nil, Nat.zero_add, Nat.zero_add, ← Nat.add_mul]
          congr 1
          omega
        · simp only [Array.toList_append, List.nil_append]
          rw [← hl]
          exact List.take_left
      exact ⟨_, _, hr, hgr, ⟨rfl, rfl, rfl, by simp, fun k hk _ => heap_alloc_old w.drew _ hk⟩, .inr rfl⟩
theorem reg_app0 {ops : Array Oper} {ov : List (Nat × Nat)} {rd : List FuncId} {Q : World → Act → Prop} {i : Nat} {o : Oper} {rest : List Oper} {w : World} {a : Act} {base : Nat}
    (hk : kd ov rd i o = 4) (hw : Region.wanted o (yielded ops a.tmps) = true) (s x : Operand) (t e : TypeId) (size : Nat)
    (ho : o.op = .call { callee := .builtin .append, args := #[s, x], argTypes := #[t, t] }) (ht : P.underlying t = some (.slice e)) {z : Value} {bytes : Nat} (hi : (P.info? e).map (fun i => (i.zero, i.size, i.bytes)) = some (some z, size, bytes)) (hzs : z.cells.size = size) (h0 : 0 < size)
    (g : Nat) (sv : Value) (m : Nat) (news : List Value) (hbase : base ≤ g) (hg : Blk w g #[] e) (hs : a.eval s = .slice (some ⟨g, 0, none⟩) 0 0) (hx : a.eval x = sv) (hnews : Sl w sv size m news)
    (h1 : ∀ u ∈ news, u.oneCell' = true) (hb0 : 0 < bytes) (hbytes : m * bytes ≤ 140737488355328)
    (h : ∀ v' w', w'.ownsRow base e size v' m news → Mod (fun _ => False) w w' → (v'.ownBlock = some g ∨ v'.ownBlock = some w.heap.size) → wpReg P ops (fun _ => True) ov rd Q (i + 1) rest w' (a.put o.dst v')) : wpReg P ops (fun _ => True) ov rd Q i (o :: rest) w a := by
  refine reg_new hk fun rn K hK => ?_
  obtain ⟨v', w', hr, h2, h3, h4⟩ := run_app0 (P := P) (w := w.drewN rn) t o.type e size ht hi hzs h0 g sv m news hbase hg (hnews.drewN rn) h1 hb0 hbytes
  unfold eOf
  rw [if_pos hw]
  unfold execOp
  simp only [ho, resolve, invoke, builtin, Sem.run_bind, Sem.run_pure, Result.andThen_ok, List.map_toArray, List.map_cons, List.map_nil, hs, hx, hr]
  exact hK _ _ ⟨h3.undrew.ex (n := 0), h v' w' h2 h3.undrew h4⟩
/-- An operation that is quiet in every world of the class (kind 0): a load of one cell. -/
theorem reg_loadS {ops : Array Oper} {S : World → Prop} {ov : List (Nat × Nat)} {rd : List FuncId} {Q : World → Act → Prop} {i : Nat} {o : Oper} {rest : List Oper} {w : World} {a : Act}
    (hk : kd ov rd i o = 0) (hw : Region.wanted o (yielded ops a.tmps) = true) (v : Value) (t : TypeId) (x : Operand) (p : Addr) (ho : o.op = .load t x) (hx : a.eval x = .pointer (some p)) (ht : ∀ w, (isAgg t).run P w = .ok false w) (hc : ∀ w, S w → w.cell? p = some v)
    (h : wpReg P ops S ov rd Q (i + 1) rest w (a.put o.dst v)) : wpReg P ops S ov rd Q i (o :: rest) w a := by
  refine reg_any hk fun K hK => ?_
  unfold qOf
  rw [if_pos hw]
  refine ⟨v, fun w' hs => ?_, hK _ _ h⟩
  simp [execOp, ho, hx, Instr.loadAt, Instr.sureAddr, loadVar, load, Sem.run, hc w' hs, ht, Result.andThen, valUpon]
end
/-- Two slices of the call's own that never share a row. -/
def Apart (v v' : Value) : Prop := ∀ k, v.ownBlock = some k → v'.ownBlock ≠ some k
theorem Apart.symm {v v' : Value} (h : Apart v v') : Apart v' v := fun k h1 h2 => h k h2 h1
theorem Apart.nil (v : Value) : Apart (.slice none 0 0) v := fun k h => by cases h
/-- Behind an append to v: it is apart from u yet. -/
theorem Apart.step {w : World} {base : Nat} {e : TypeId} {K : Nat} {u v v' : Value} {n : Nat} {xs : List Value} (h : Apart v u) (ho : w.ownsRow base e K u n xs) {B : Nat} (hB : w.heap.size ≤ B) (hv : v'.ownBlock = v.ownBlock ∨ v'.ownBlock = some B) : Apart v' u := by
  intro k hk hu
  rcases hv with hv | hv
  · exact h k (hv.symm.trans hk) hu
  · rw [hv] at hk
    cases hk
    have := (ho.lt B hu).2
    omega
/-- A slice that another one's append leaves. -/
theorem owns_apart {w w' : World} {base : Nat} {e : TypeId} {size : Nat} {v u : Value} {n : Nat} {xs : List Value} (h : w.ownsRow base e size u n xs) (hm : Mod (fun i => v.ownBlock = some i) w w') (ha : Apart v u) : w'.ownsRow base e size u n xs := by
  obtain ⟨h1, h2⟩ := h
  rcases h2 with h2 | ⟨g, cap, cur, hv, hb, hh, rest⟩
  · exact ⟨h1, .inl h2⟩
  · exact ⟨h1, .inr ⟨g, cap, cur, hv, hb, (show Blk w g cur e from hh).mod hm (fun h => ha g h (by rw [hv]; rfl)), rest⟩⟩
/-- .. whatever of the blocks that were not there turns besides. -/
theorem Mod.also {S T : Nat → Prop} {a b c : World} (h : Mod S a b) (k : Mod T b c) (hT : ∀ i, T i → S i ∨ a.heap.size ≤ i) : Mod S a c :=
  ⟨k.os.trans h.os, k.tape.trans h.tape, k.output.trans h.output, Nat.le_trans h.size k.size, fun i hi hs => (k.block i (Nat.lt_of_lt_of_le hi h.size) (fun e => by rcases hT i e with h1 | h1; exact hs h1; omega)).trans (h.block i hi hs)⟩
theorem owns_modG {S : Nat → Prop} {w w' : World} {base : Nat} {e : TypeId} {size : Nat} {v : Value} {n : Nat} {xs : List Value} (h : w.ownsRow base e size v n xs) (hm : Mod S w w') (hS : ∀ i, base ≤ i → ¬ S i) : w'.ownsRow base e size v n xs := by
  obtain ⟨h1, h2⟩ := h
  rcases h2 with h2 | ⟨g, cap, cur, hv, hb, hh, rest⟩
  · exact ⟨h1, .inl h2⟩
  · exact ⟨h1, .inr ⟨g, cap, cur, hv, hb, (show Blk w g cur e from hh).mod hm (hS g hb), rest⟩⟩
theorem own_ge {w : World} {base : Nat} {e : TypeId} {size : Nat} {u : Value} {n : Nat} {xs : List Value} (h : w.ownsRow base e size u n xs) : ∀ i, u.ownBlock = some i → base ≤ i := fun i hi => (h.lt i hi).1
end Go.Proofs.YtjmfhcliggjdgaaDoor

/- A region that draws its order, walked once in an order of one's own choice; for every region that passes a test on its edges; no other condition. -/
namespace Go.Proofs.YtjmfhcliggjdgaaDoor
open Go

section
variable {P : Program} {ops : Array Oper} {md : Region.Mode} {S : World → Prop}
def cmpAt (ops : Array Oper) (kf : Nat → Oper → Nat) (i j : Nat) : Bool :=
  match ops[i]?, ops[j]? with
  | some oi, some oj => cmpB (kf i oi) (kf j oj)
  | _, _ => true
def ordB (md : Region.Mode) (ops : Array Oper) (kf : Nat → Oper → Nat) : List Nat → Array Bool → Bool
  | [], listed => (Region.ready md ops listed).isEmpty
  | i :: is, listed => (Region.ready md ops listed).contains i && Region.free md ops listed i && ((List.range ops.size).all fun j => j == i || listed.getD j true || cmpAt ops kf i j || (descs md ops i).contains j) && ordB md ops kf is (listed.setIfInBounds i true)
def wpOrd (P : Program) (ops : Array Oper) (S : World → Prop) (kf : Nat → Oper → Nat) (Q : World → Act → Prop) : List Nat → World → Act → Prop
  | [], w, a => Q w a
  | i :: is, w, a => match ops[i]? with
    | none => False
    | some o => op2 P ops S (kf i o) o (wpOrd P ops S kf Q is) w a
theorem any2_ord {kf : Nat → Oper → Nat} {Q : World → Act → Prop} (hs : Region.noSelect ops = true) : ∀ (is : List Nat) (listed : Array Bool) (w : World) (a : Act), (∀ n, S (w.drewN n)) → DC md ops listed →
    ordB md ops kf is listed = true → wpOrd P ops S kf Q is w a → any2 P md ops S kf Q is.length listed w a
  | [], listed, w, a, _, _, hB, h => ⟨by simpa [ordB] using hB, h⟩
  | i :: is, listed, w, a, hS, hd, hB, h => by
    unfold wpOrd at h
    cases h0 : ops[i]? with
    | none => rw [h0] at h; exact h.elim
    | some o =>
      rw [h0] at h
      simp only [ordB, Bool.and_eq_true] at hB
      obtain ⟨⟨⟨hr, hf⟩, hc⟩, hB'⟩ := hB
      have hr' : i ∈ Region.ready md ops listed := by simpa using hr
      refine any2_first h0 (Region.noSelect_spec hs) is.length listed w a hS hd (Region.free_spec h0 hf) (fun j oj hoj hji hun hno => ?_) hr'
        (op2_monoS hS (fun w' a' hS' h' => any2_ord hs is _ _ _ hS' (dc_set hd hr') hB' h') h)
      have hlt := (Array.getElem?_eq_some_iff.1 hoj).1
      have h1 := List.all_eq_true.1 hc j (List.mem_range.2 hlt)
      simp only [Bool.or_eq_true, beq_iff_eq, hji, false_or, hun, Bool.false_eq_true] at h1
      rcases h1 with h1 | h1
      · unfold cmpAt at h1
        rw [h0, hoj] at h1
        exact h1
      · exact absurd (by simpa using h1) hno
theorem wpOrd_of_reg {ov : List (Nat × Nat)} {rd : List FuncId} {Q : World → Act → Prop} {l : List Oper} (order : List Nat) (hn : ∀ k, k < order.length → order.idxOf (order.getD k 0) = k) : ∀ (is : List Nat) (k : Nat) (w : World) (a : Act), (∀ j, is[j]? = order[k + j]?) → (∀ j ∈ is, j < l.length) →
    wpReg P l.toArray S ov rd Q k (is.filterMap fun i => l[i]?) w a → wpOrd P l.toArray S (fun i o => kd ov rd (order.idxOf i) o) Q is w a
  | [], k, w, a, _, _, h => by
    rw [List.filterMap_nil, wpReg_nil] at h
    exact h
  | i :: is, k, w, a, ho, hlt, h => by
    have hi := hlt i (List.mem_cons_self ..)
    have hli : l[i]? = some (l[i]'hi) := List.getElem?_eq_getElem hi
    rw [List.filterMap_cons, hli] at h
    rw [wpReg_cons] at h
    have hk := ho 0
    simp only [List.getElem?_cons_zero, Nat.add_zero] at hk
    have hkl := (List.getElem?_eq_some_iff.1 hk.symm).1
    have hidx := hn k hkl
    rw [List.getD_eq_getElem?_getD, ← hk, Option.getD_some] at hidx
    unfold wpOrd
    have hai : l.toArray[i]? = some (l[i]'hi) := by simp
    rw [hai]
    simp only [hidx]
    exact op2_mono (fun w' a' h' => wpOrd_of_reg order hn is (k + 1) w' a' (fun j => by have := ho (j + 1); simpa [Nat.add_assoc, Nat.add_comm 1 j] using this) (fun j hj => hlt j (List.mem_cons_of_mem _ hj)) h') h
def ordOK (md : Region.Mode) (ops : Array Oper) (ov : List (Nat × Nat)) (rd : List FuncId) (order : List Nat) : Bool :=
  Region.noSelect ops && order.length == ops.size && ((List.range order.length).all fun k => order.idxOf (order.getD k 0) == k && decide (order.getD k 0 < ops.size)) && ordB md ops (fun i o => kd ov rd (order.idxOf i) o) order (Array.replicate ops.size false)
/-- THE WALK IN THE ORDER 'order'; ov: kinds by place IN THAT ORDER. -/
theorem wp_regionO {id : Nat} {Q' : Exit → Act → World → Prop} {a : Act} {w : World} {l : List Oper} (order : List Nat) (ov : List (Nat × Nat)) (rd : List FuncId) (S : World → Prop) (hm : P.follows .mixedOrders = true) (hB : ordOK .any l.toArray ov rd order = true)
    (hS : ∀ n, S (w.drewN n)) {l' : List Oper} (hl : (order.filterMap fun i => l[i]?) = l') (h : wpReg P l.toArray S ov rd (fun w' a' => ∀ n, Q' .normal a' (w'.drewN n)) 0 l' w a) : (Code.region id l.toArray true).wp P Q' a w := by
  subst hl
  simp only [ordOK, Bool.and_eq_true, beq_iff_eq] at hB
  obtain ⟨⟨⟨h1, h2⟩, h3⟩, h4⟩ := hB
  have h3' : ∀ k, k < order.length → order.idxOf (order.getD k 0) = k ∧ order.getD k 0 < l.length := fun k hk => by
    have := List.all_eq_true.1 h3 k (List.mem_range.2 hk)
    simp only [Bool.and_eq_true, beq_iff_eq, decide_eq_true_eq] at this
    exact ⟨this.1, this.2⟩
  refine wp_region_any hm ?_
  have h5 := wpOrd_of_reg (P := P) (S := S) (ov := ov) (rd := rd) (Q := fun w' a' => ∀ n, Q' .normal a' (w'.drewN n)) (l := l) order (fun k hk => (h3' k hk).1) order 0 w a (fun j => by rw [Nat.zero_add]) (fun j hj => by
    obtain ⟨k, hk⟩ := List.getElem?_of_mem hj
    have hkl := (List.getElem?_eq_some_iff.1 hk).1
    have := (h3' k hkl).2
    rwa [List.getD_eq_getElem?_getD, hk, Option.getD_some] at this) h
  have h6 := any2_ord (P := P) (md := .any) (S := S) h1 order (Array.replicate l.toArray.size false) w a hS (fun j o ho hl => by
        have hlt := (Array.getElem?_eq_some_iff.1 ho).1
        rw [Array.getElem?_replicate, if_pos hlt] at hl; cases hl) h4 h5
  rw [h2] at h6
  have h7 := wpAny_of_2 (Q' := Q') (fun w a h => h) _ _ w a hS h6 1
  show wpAny P .any l.toArray Q' l.toArray.size (Array.replicate l.toArray.size false) a (w.drewN 1)
  simpa using h7
theorem wp_regionO2 {id : Nat} {Q' : Exit → Act → World → Prop} {a : Act} {w : World} {l : List Oper} (order : List Nat) (ov : List (Nat × Nat)) (rd : List FuncId) (hm : P.follows .mixedOrders = true) (hB : ordOK .any l.toArray ov rd order = true)
    {l' : List Oper} (hl : (order.filterMap fun i => l[i]?) = l') (h : wpReg P l.toArray (fun _ => True) ov rd (fun w' a' => ∀ n, Q' .normal a' (w'.drewN n)) 0 l' w a) : (Code.region id l.toArray true).wp P Q' a w :=
  wp_regionO order ov rd _ hm hB (fun _ => trivial) hl h
end
end Go.Proofs.YtjmfhcliggjdgaaDoor

/- Arguments opened to cells: slices of structs of one-cell fields; no condition. -/
namespace Go.Proofs.YtjmfhcliggjdgaaDoor
open Go Go.RowKit Go.ChangeShapes Go.WideShapes Go.Deep

section
variable {H : Type} {enc : TypeId × Value → H} {P : Program} {w : World} {base : Nat} {spare : Nat → Bool} {held : Bool}
/-- For every element and every field: its cell, and its own reading. -/
theorem open_fields {t e : TypeId} {fs : Array Field} {fuel : Nat} {cs : List Value} {x : DataW H × List MemPlace} (ht : P.underlying t = some (.slice e)) (he : P.underlying e = some (.struct fs))
    (hone : oneCellFields P fs = true) (hC : P.cellsOf e = fs.size) (h : DataW.trod enc P w base spare held fuel t cs = some x) :
    (cs = [.slice none 0 0]) ∨
    ∃ (a : Addr) (len cap m : Nat), cs = [.slice (some a) len cap] ∧ len ≤ cap ∧ cap ≤ maxLen ∧ m = (if spare a.block then cap else len) ∧
      ∀ i, i < m → ∃ n : Nat, ∀ (j : Nat) (f : Field), fs[j]? = some f → ∃ (v : Value) (y : DataW H × List MemPlace), w.cell? (a.add (i * fs.size + j)) = some v ∧ DataW.trod enc P w base spare held n f.type [v] = some y := by
  rcases open_slice ht h with h0 | ⟨a, len, cap, m, n, D, Pl, hcs, hb, hl, hm, hmm, hx, hi⟩
  · exact .inl h0.1
  · refine .inr ⟨a, len, cap, m, hcs, hl, hm, hmm, fun i him => ?_⟩
    obtain ⟨cs', hc, ht'⟩ := hi i him
    rw [hC] at hc
    obtain ⟨ys, n', hn', hy, hlen, hyl, hf⟩ := DataW.trod_struct he ht'
    obtain ⟨_, hcl, hat⟩ := World.cells?_some hc
    refine ⟨n', fun j f hj => ?_⟩
    obtain ⟨ho, hk⟩ := hone_of hone j f hj
    have hjl : j < fs.size := (Array.getElem?_eq_some_iff.1 hj).1
    have hcell := hat j hjl
    have hv : cs'[j]? = some (cs'[j]'(by omega)) := List.getElem?_eq_getElem (by omega)
    have h1 := hf j f hj
    rw [ho, hk] at h1
    have hone' : (cs'.drop j).take 1 = [cs'[j]'(by omega)] := by
      rw [List.drop_eq_getElem_cons (by omega)]
      rfl
    rw [hone'] at h1
    have hys : ys[j]? = some (ys[j]'(by omega)) := List.getElem?_eq_getElem (by omega)
    refine ⟨_, _, ?_, h1.trans hys⟩
    rw [← Go.Deep.add_add, hcell, hv]
end
end Go.Proofs.YtjmfhcliggjdgaaDoor

/- The keys of a map of ints, sorted, in plain words; no condition. -/
namespace Go.Proofs.YtjmfhcliggjdgaaDoor
open Go Go.RowKit

theorem keys_toD (l : List (Int × Value)) : intKeys (toD l) = keysL l := by
  simp only [toD, intKeys, keysL, List.map_map]
  rfl
theorem size_toD (l : List (Int × Value)) : Maps.size (toD l) = l.length := by simp [toD, Maps.size]
theorem keys_le {α : Type} : ∀ {l : List (Int × α)}, Rising l → (keysL l).Pairwise fun a b => decide (a ≤ b) = true
  | [], _ => List.Pairwise.nil
  | p :: l, h => by
    obtain ⟨h1, h2⟩ := List.pairwise_cons.1 h
    refine List.pairwise_cons.2 ⟨fun a ha => ?_, keys_le h2⟩
    obtain ⟨q, hq, rfl⟩ := List.mem_map.1 ha
    have := h1 q hq
    simp only [decide_eq_true_eq]
    omega
theorem sort_keys {α : Type} {l : List (Int × α)} (hr : Rising l) {ss : List Int} (h : ss.Perm (keysL l)) : ss.mergeSort (fun x y => decide (x ≤ y)) = keysL l := by
  have tr : ∀ a b c : Int, decide (a ≤ b) = true → decide (b ≤ c) = true → decide (a ≤ c) = true := fun a b c h1 h2 => by simp only [decide_eq_true_eq] at *; omega
  have to : ∀ a b : Int, (decide (a ≤ b) || decide (b ≤ a)) = true := fun a b => by simp only [Bool.or_eq_true, decide_eq_true_eq]; omega
  refine List.Perm.eq_of_pairwise (le := fun a b : Int => decide (a ≤ b) = true) (fun a b _ _ h1 h2 => ?_) (List.pairwise_mergeSort tr to ss) (keys_le hr) ((List.mergeSort_perm ss _).trans h)
  simp only [decide_eq_true_eq] at h1 h2
  omega
abbrev intL (l : List Int) : List Value := l.map (Value.int .i64)
/-- What is handed back: a list of integers in new memory. -/
def IntsP (l : List Int) (w : World) (e : Ending) (w' : World) : Prop := ∃ v, e = .returned v ∧ w'.ownsRow w.heap.size 3 1 v l.length (intL l) ∧ Mod (fun _ => False) w w'
theorem IntsP.of_sorted {l : List (Int × Value)} (hr : Rising l) {w w1 : World} {e : Ending} {w' : World} (h1 : Mod (fun _ => False) w w1) (h : ∃ (v : Value) (ss : List Int), e = .returned v ∧ ss.Perm (intKeys (toD l)) ∧ w'.ownsRow w1.heap.size 3 1 v ss.length ((ss.mergeSort (fun x y => decide (x ≤ y))).map (Value.int .i64)) ∧ Below w1.heap.size w1 w') : IntsP (keysL l) w e w' := by
  obtain ⟨v, ss, he, hp, ho, hb⟩ := h
  rw [keys_toD] at hp
  refine ⟨v, he, ?_, h1.trans (Mod.of_below hb)⟩
  rw [sort_keys hr hp, hp.length_eq] at ho
  exact ho.mono h1.size
end Go.Proofs.YtjmfhcliggjdgaaDoor

/- A map from ints to records, as a rising list; no condition. -/
namespace Go.Proofs.YtjmfhcliggjdgaaDoor
open Go Go.RowKit
variable {α : Type}

/-- The entries as values. -/
def mpV (f : Int → α → Value) (ks : List (Int × α)) : List (Int × Value) := ks.map fun p => (p.1, f p.1 p.2)
theorem lk_mpV (f : Int → α → Value) (ks : List (Int × α)) (id : Int) : lkL (mpV f ks) id = (lkL ks id).map (f id) := by
  unfold lkL mpV
  rw [List.find?_map]
  cases h : ks.find? (fun p => p.1 == id) with
  | none => rw [show ((fun p : Int × Value => p.1 == id) ∘ fun p : Int × α => (p.1, f p.1 p.2)) = fun p => p.1 == id from rfl, h]; rfl
  | some p =>
    rw [show ((fun p : Int × Value => p.1 == id) ∘ fun p : Int × α => (p.1, f p.1 p.2)) = fun p => p.1 == id from rfl, h]
    have := List.find?_some h
    simp at this
    simp [this]
theorem del_mpV (f : Int → α → Value) (ks : List (Int × α)) (id : Int) : delL (mpV f ks) id = mpV f (delL ks id) := by
  unfold delL mpV
  rw [List.filter_map]
  rfl
theorem ins_mpV (f : Int → α → Value) (id : Int) (r : α) : ∀ ks : List (Int × α), insS (id, f id r) (mpV f ks) = mpV f (insS (id, r) ks)
  | [] => rfl
  | y :: t => by
    show insS (id, f id r) ((y.1, f y.1 y.2) :: mpV f t) = _
    unfold insS
    by_cases h : id < y.1
    · simp only [h, if_true]; rfl
    · simp only [h, if_false, ins_mpV f id r t]; rfl
theorem put_mpV (f : Int → α → Value) (ks : List (Int × α)) (id : Int) (r : α) : putL (mpV f ks) id (f id r) = mpV f (putL ks id r) := by
  unfold putL
  rw [del_mpV, ins_mpV]
theorem len_mpV (f : Int → α → Value) (ks : List (Int × α)) : (mpV f ks).length = ks.length := by simp [mpV]
theorem keys_mpV (f : Int → α → Value) (ks : List (Int × α)) : keysL (mpV f ks) = keysL ks := by simp [mpV, keysL, List.map_map]
theorem rising_mpV {f : Int → α → Value} {ks : List (Int × α)} : Rising (mpV f ks) ↔ Rising ks := by
  unfold Rising mpV
  rw [List.pairwise_map]
end Go.Proofs.YtjmfhcliggjdgaaDoor

/- 'for k, v := range m' over a map with int keys: what is yet to come, as a list; no condition. -/
namespace Go.Proofs.YtjmfhcliggjdgaaDoor
open Go Go.RowKit

/-- Under way over map b, by iterator r: of the pairs l those of 'todo' are yet to come. -/
structure IRange (P : Program) (K : TypeId) (w : World) (b r : Nat) (l todo : List (Int × Value)) : Prop where
  rising : Rising l
  run : ∃ left cnt, w.ranges P K RV b r l.length (toD l) left cnt ∧ todo = l.filter fun p => left (.int .i64 p.1)
section
variable {P : Program} {K T E : TypeId} {w : World} {b r : Nat} {l todo : List (Int × Value)}
theorem IRange.map (h : IRange P K w b r l todo) : IMap P K w b l := by
  obtain ⟨left, cnt, h1, _⟩ := h.run
  exact ⟨h.rising, h1.owns⟩
theorem IRange.mod {S : Nat → Prop} {w' : World} (h : IRange P K w b r l todo) (hm : Mod S w w') (hb : ¬ S b) (hr : ¬ S r) : IRange P K w' b r l todo := by
  obtain ⟨left, cnt, h1, h2⟩ := h.run
  refine ⟨h.rising, left, cnt, ?_, h2⟩
  obtain ⟨es, clock, since, seen, c0, g1, g2, g3, g4, g5, g6⟩ := h1
  exact ⟨es, clock, since, seen, c0, hm.heap g1 hb, g2, g3, g4, hm.heap g5 hr, g6⟩
theorem IRange.new {w' : World} (h : IRange P K w b r l todo) (hm : Mod (fun _ => False) w w') : IRange P K w' b r l todo := h.mod hm (fun h => h) (fun h => h)
theorem IRange.left {w' : World} (h : IRange P K w b r l todo) (hm : Mod (fun _ => False) w w') : w'.rangeLeft b r = w.rangeLeft b r := by
  obtain ⟨left, cnt, h1, _⟩ := h.run
  obtain ⟨es, clock, since, seen, c0, g1, _, _, _, g5, _⟩ := h1
  unfold World.rangeLeft
  rw [hm.heap g1 (fun h => h), hm.heap g5 (fun h => h), g1, g5]
theorem sameKey_int (a k : Int) : (Lit.int .i64 a).sameKey (.int .i64 k) = decide (a = k) := by
  simp [Lit.sameKey]

variable {ops : Array Oper} {rest : List Oper} {o : Oper} {a : Act} {Q : Exit → Act → World → Prop}
theorem range_start (hg : o.guard = none) (m : Operand) (hop : o.op = Op.range T m) (hK : P.underlying K = some (.int .i64)) (hT : P.underlying T = some (.map K E)) (hm : a.eval m = .map (some b)) (h : IMap P K w b l)
    (hN : ∀ w', IRange P K w' b w.heap.size l l → Mod (fun _ => False) w w' → w'.heap.size = w.heap.size + 1 → wpList P ops Q rest (a.put o.dst (.pointer (some ⟨w.heap.size, 0, none⟩))) w') : wpList P ops Q (o :: rest) a w := by
  refine wpList_range_own w hg m T hop K E (Maps.int_keyed hK) hT RV b _ _ hm h.owns fun w' h1 h2 h3 => hN w' ⟨h.rising, _, _, h1, ?_⟩ ⟨h2.os, h2.tape, h2.output, h2.size, fun k hk _ => h2.block k hk (by simp)⟩ h3
  symm
  rw [List.filter_eq_self]
  intro p hp
  rw [has_toD, lk_of_mem h.rising (k := p.1) (v := p.2) hp]
  rfl
theorem range_next (hg : o.guard = none) (it : Operand) (hop : o.op = Op.next it false) (hK : P.underlying K = some (.int .i64)) (hit : a.eval it = .pointer (some ⟨r, 0, none⟩)) (h : IRange P K w b r l todo)
    (hDone : todo = [] → wpList P ops Q rest (a.put o.dst (.tuple #[.bool false])) w)
    (hMore : ∀ (x : Int) (c : Value) (w' : World), I64 x → (x, c) ∈ todo → (x, c) ∈ l → IRange P K w' b r l (delL todo x) → w'.rangeLeft b r < w.rangeLeft b r → Mod (· = r) w w' → w'.heap.size = w.heap.size →
      (Instr.entry (.pointer (some ⟨r, 0, none⟩))).run P w' = .ok (.tuple #[.int .i64 x, c]) w' → wpList P ops Q rest (a.put o.dst (.tuple #[.bool true, .int .i64 x, c])) w') : wpList P ops Q (o :: rest) a w := by
  obtain ⟨left, cnt, h1, h2⟩ := h.run
  refine wpList_next_ranges w hg it hop K (Maps.int_keyed hK) RV (Value.int .i64) id (fun key kl hk => by obtain ⟨x, hx, _⟩ := Maps.keyOf_int_inv hK hk; exact ⟨x, hx⟩) (fun v _ _ => ⟨v, rfl⟩) b r _ _ left cnt hit h1 (fun _ hl => hDone (by rw [h2, List.filter_eq_nil_iff]; intro p _; simp [hl])) ?_
  intro x c kl y w' cnt' hkey hlk hv hat hrg hlt hgr hsz hen
  obtain ⟨x', ex, rfl, hwf⟩ := Maps.keyOf_int_inv hK hkey
  cases ex
  cases hv
  have hlk2 : lkL l x = some c := by
    cases hf : lkL l x with
    | some v =>
      have := hat (.held c)
      rw [atKey_toD, hf] at this
      simpa using this
    | none =>
      exfalso
      have e1 := hat (.held (.bool true))
      have e2 := hat (.held (.bool false))
      rw [atKey_toD, hf] at e1 e2
      simp only [Option.getD_none] at e1 e2
      rw [← e2] at e1
      simp at e1
  have hml := lk_some_mem hlk2
  refine hMore x c w' hwf ?_ hml ⟨h.rising, _, _, hrg, ?_⟩ (by rw [hrg.left_eq, h1.left_eq]; exact hlt) ⟨hgr.os, hgr.tape, hgr.output, hgr.size, fun k hk hs => hgr.block k hk (fun e => hs (Option.some.inj e))⟩ hsz hen
  · rw [h2, List.mem_filter]
    exact ⟨hml, hlk⟩
  · rw [h2]
    unfold delL
    rw [List.filter_filter]
    apply List.filter_congr
    intro p _
    rw [sameKey_int, Bool.and_comm]
    simp
end
end Go.Proofs.YtjmfhcliggjdgaaDoor

/- Package flight: the table, New, Of; no condition. -/
namespace Go.Proofs.YtjmfhcliggjdgaaDoor.Fl
open Go Go.RowKit

/-- Of a piece that is on the way: who was asked for it, and when. -/
structure Rq where
  p : Int
  t : Int
def rqv (k : Int) (r : Rq) : Value := .agg #[.int .i64 r.p, .int .i64 k, .int .i64 r.t]
abbrev rq0 : Value := .agg #[.int .i64 0, .int .i64 0, .int .i64 0]
/-- A table at block b, its map at block M. -/
structure TB (w : World) (b M : Nat) (most each pat : Int) (ks : List (Int × Rq)) : Prop where
  head : Blk w b #[.int .i64 most, .int .i64 each, .int .i64 pat, .map (some M)] 80
  map : IMap Tryd.prog 3 w M (mpV rqv ks)
  ne : M ≠ b
theorem TB.mod {S : Nat → Prop} {w w' : World} {b M : Nat} {most each pat : Int} {ks : List (Int × Rq)} (h : TB w b M most each pat ks) (hm : Mod S w w') (hb : ¬ S b) (hM : ¬ S M) : TB w' b M most each pat ks := ⟨h.head.mod hm hb, h.map.mod hm hM, h.ne⟩
theorem TB.new {w w' : World} {b M : Nat} {most each pat : Int} {ks : List (Int × Rq)} (h : TB w b M most each pat ks) (hm : Mod (fun _ => False) w w') : TB w' b M most each pat ks := h.mod hm (fun h => h) (fun h => h)
theorem TB.drewN {w : World} {b M : Nat} {most each pat : Int} {ks : List (Int × Rq)} (h : TB w b M most each pat ks) (n : Nat) : TB (w.drewN n) b M most each pat ks := ⟨h.head, h.map.drewN n, h.ne⟩
theorem TB.lt {w : World} {b M : Nat} {most each pat : Int} {ks : List (Int × Rq)} (h : TB w b M most each pat ks) : b < w.heap.size ∧ M < w.heap.size := ⟨h.head.lt, h.map.lt⟩
theorem TB.rising {w : World} {b M : Nat} {most each pat : Int} {ks : List (Int × Rq)} (h : TB w b M most each pat ks) : Rising ks := rising_mpV.1 h.map.rising

theorem zeroRq (w : World) : (zeroValue 44).run Tryd.prog w = .ok rq0 w := by kernel_rfl

set_option maxHeartbeats 400000 in
theorem flWithin (n lo hi : Int) (w : World) :
    Calls Tryd.prog 32 #[.int .i64 n, .int .i64 lo, .int .i64 hi] w fun e w' => e = .returned (.bool (decide (lo ≤ n) && decide (n ≤ hi))) ∧ w = w' := by
  by_cases h1 : lo ≤ n
  · go_enter Tryd.func32, Tryd.ntmps32
    go_wp2_with fail
    go_ret
    exact ⟨by simp [h1], rfl⟩
  · have h2 : decide (lo ≤ n) = false := by simpa using h1
    go_enter Tryd.func32, Tryd.ntmps32
    go_wp2_with fail
    go_ret
    exact ⟨by simp, rfl⟩

/-- What New asks. -/
def NewOk (most each pat : Int) : Prop := 1 ≤ most ∧ most ≤ 256 ∧ 1 ≤ each ∧ each ≤ most ∧ 1 ≤ pat ∧ pat ≤ 1048576
set_option maxRecDepth 100000 in
set_option maxHeartbeats 400000 in
theorem flNew (most each pat : Int) (w : World) (h : NewOk most each pat) :
    Calls Tryd.prog 14 #[.int .i64 most, .int .i64 each, .int .i64 pat] w fun e w' => e = .returned (.tuple #[.pointer (some ⟨w.heap.size + 1, 0, none⟩), .int .i64 0]) ∧ TB w' (w.heap.size + 1) w.heap.size most each pat [] ∧ Mod (fun _ => False) w w' ∧ w'.heap.size = w.heap.size + 2 := by
  obtain ⟨h1, h2, h3, h4, h5, h6⟩ := h
  have e1 : (decide (1 ≤ most) && decide (most ≤ 256)) = true := by simp [h1, h2]
  have e2 : (decide (1 ≤ each) && decide (each ≤ most)) = true := by simp [h3, h4]
  have e3 : (decide (1 ≤ pat) && decide (pat ≤ 1048576)) = true := by simp [h5, h6]
  have hmm := @run_makeMap Tryd.prog
  go_enter Tryd.func14, Tryd.ntmps14
  go_wp2_with fail
  refine (flWithin _ _ _ _).mono ?_; rw [e1]; rintro e w' ⟨rfl, rfl⟩
  go_wp2_with fail
  refine (flWithin _ _ _ _).mono ?_; rw [e2]; rintro e w' ⟨rfl, rfl⟩
  go_wp2_with fail
  refine (flWithin _ _ _ _).mono ?_; rw [e3]; rintro e w' ⟨rfl, rfl⟩
  go_wp2_with fail
  go_ret2
  refine ⟨rfl, ⟨?_, (IMap.made Tryd.prog 3 w).alloc _, by omega⟩, ((Mod.refl _ w).alloc _).alloc _, by simp⟩
  have := Blk.new (w.alloc (.map #[] 0)) #[.int .i64 most, .int .i64 each, .int .i64 pat, .map (some w.heap.size)] 80
  simpa using this
set_option maxRecDepth 100000 in
set_option maxHeartbeats 400000 in
theorem flNewBad (most each pat : Int) (w : World) (h : ¬ NewOk most each pat) :
    Calls Tryd.prog 14 #[.int .i64 most, .int .i64 each, .int .i64 pat] w fun e w' => e = .returned (.tuple #[.pointer none, .int .i64 1]) ∧ w = w' := by
  unfold NewOk at h
  by_cases a1 : 1 ≤ most ∧ most ≤ 256
  · have e1 : (decide (1 ≤ most) && decide (most ≤ 256)) = true := by simp [a1.1, a1.2]
    by_cases a2 : 1 ≤ each ∧ each ≤ most
    · have e2 : (decide (1 ≤ each) && decide (each ≤ most)) = true := by simp [a2.1, a2.2]
      have e3 : (decide (1 ≤ pat) && decide (pat ≤ 1048576)) = false := by
        rw [Bool.and_eq_false_iff, decide_eq_false_iff_not, decide_eq_false_iff_not]; omega
      clear h a1 a2
      go_enter Tryd.func14, Tryd.ntmps14
      go_wp2_with fail
      refine (flWithin _ _ _ _).mono ?_; rw [e1]; rintro e w' ⟨rfl, rfl⟩
      go_wp2_with fail
      refine (flWithin _ _ _ _).mono ?_; rw [e2]; rintro e w' ⟨rfl, rfl⟩
      go_wp2_with fail
      refine (flWithin _ _ _ _).mono ?_; rw [e3]; rintro e w' ⟨rfl, rfl⟩
      go_wp2_with fail
      go_ret2
      exact ⟨rfl, rfl⟩
    · have e2 : (decide (1 ≤ each) && decide (each ≤ most)) = false := by
        rw [Bool.and_eq_false_iff, decide_eq_false_iff_not, decide_eq_false_iff_not]; omega
      clear h a1 a2
      go_enter Tryd.func14, Tryd.ntmps14
      go_wp2_with fail
      refine (flWithin _ _ _ _).mono ?_; rw [e1]; rintro e w' ⟨rfl, rfl⟩
      go_wp2_with fail
      refine (flWithin _ _ _ _).mono ?_; rw [e2]; rintro e w' ⟨rfl, rfl⟩
      go_wp2_with fail
      go_ret2
      exact ⟨rfl, rfl⟩
  · have e1 : (decide (1 ≤ most) && decide (most ≤ 256)) = false := by
      rw [Bool.and_eq_false_iff, decide_eq_false_iff_not, decide_eq_false_iff_not]; omega
    clear h a1
    go_enter Tryd.func14, Tryd.ntmps14
    go_wp2_with fail
    refine (flWithin _ _ _ _).mono ?_; rw [e1]; rintro e w' ⟨rfl, rfl⟩
    go_wp2_with fail
    go_ret2
    exact ⟨rfl, rfl⟩

/-- What the table has of a piece. -/
def rqAt (ks : List (Int × Rq)) (k : Int) : Value := ((lkL ks k).map (rqv k)).getD rq0
theorem rqAt_agg (ks : List (Int × Rq)) (k : Int) : ∃ a b c : Int, rqAt ks k = .agg #[.int .i64 a, .int .i64 b, .int .i64 c] := by
  unfold rqAt
  cases lkL ks k with
  | none => exact ⟨0, 0, 0, rfl⟩
  | some r => exact ⟨r.p, k, r.t, rfl⟩
set_option maxRecDepth 100000 in
set_option maxHeartbeats 400000 in
theorem flOf (k : Int) (b M : Nat) (most each pat : Int) (ks : List (Int × Rq)) (w : World) (hk : I64 k) (h : TB w b M most each pat ks) :
    Calls Tryd.prog 27 #[.pointer (some ⟨b, 0, none⟩), .int .i64 k] w fun e w' => e = .returned (.tuple #[rqAt ks k, .bool (lkL ks k).isSome]) ∧ Mod (fun _ => False) w w' := by
  have c3 : w.cell? ⟨b, 3, none⟩ = some (.map (some M)) := h.head.cell 3
  have hl : ∀ o, (Instr.lookup 78 (.map (some M)) (.int .i64 k) true).run Tryd.prog (w.alloc o) = .ok (.tuple #[rqAt ks k, .bool (lkL ks k).isSome]) (w.alloc o) := by
    intro o
    have := (h.map.alloc o).lookOk Tryd.underlying3 Tryd.underlying78 (zeroRq _) hk
    rw [lk_mpV] at this
    rw [this]
    unfold rqAt
    cases lkL ks k <;> rfl
  obtain ⟨x, y, z, hx⟩ := rqAt_agg ks k
  have hlt := h.lt
  rw [hx] at hl ⊢
  clear h hx
  go_enter Tryd.func27, Tryd.ntmps27
  go_wp2_with fail
  exact bodyPost_ret (v := .tuple #[.agg #[.int .i64 x, .int .i64 y, .int .i64 z], .bool (lkL ks k).isSome]) (by simp [results, Tryd.results27, go_sem]) rfl ⟨rfl, ((Mod.refl _ w).alloc _).alloc _⟩

/-- How many a peer was asked for. -/
def many (ks : List (Int × Rq)) (p : Int) : Nat := (ks.filter fun q => q.2.p == p).length
theorem many_le (ks : List (Int × Rq)) (p : Int) : many ks p ≤ ks.length := List.length_filter_le _ _
theorem many_del (p x : Int) (r : Rq) : ∀ {ks : List (Int × Rq)}, Rising ks → (x, r) ∈ ks → many ks p = many (delL ks x) p + if r.p = p then 1 else 0
  | [], _, h => by simp at h
  | q :: t, hr, h => by
    obtain ⟨h1, h2⟩ := List.pairwise_cons.1 hr
    by_cases e : q.1 = x
    · have hq : q = (x, r) := by
        rcases List.mem_cons.1 h with h | h
        · exact h.symm
        · have := h1 _ h
          simp only at this
          omega
      have hd : delL (q :: t) x = t := by
        have : delL t x = t := by
          unfold delL
          rw [List.filter_eq_self]
          intro y hy
          have := h1 y hy
          simp
          omega
        unfold delL at this ⊢
        rw [List.filter_cons, if_neg (by simp [e]), this]
      rw [hd, hq]
      unfold many
      rw [List.filter_cons]
      by_cases hp : r.p = p <;> simp [hp]
    · have ht : (x, r) ∈ t := by
        rcases List.mem_cons.1 h with h | h
        · exact absurd (by rw [← h]) e
        · exact h
      have hd : delL (q :: t) x = q :: delL t x := by
        unfold delL
        rw [List.filter_cons, if_pos (by simpa using e)]
      have ih := many_del p x r h2 ht
      rw [hd]
      unfold many at ih ⊢
      rw [List.filter_cons, List.filter_cons]
      by_cases hp : (q.2.p == p) = true
      · rw [if_pos hp, if_pos hp, List.length_cons, List.length_cons, ih]; omega
      · rw [if_neg hp, if_neg hp, ih]
theorem mem_mpV {α : Type} {f : Int → α → Value} {ks : List (Int × α)} {x : Int} {c : Value} (h : (x, c) ∈ mpV f ks) : ∃ r, (x, r) ∈ ks ∧ c = f x r := by
  obtain ⟨q, hq, e⟩ := List.mem_map.1 h
  obtain ⟨k, r⟩ := q
  simp only [Prod.mk.injEq] at e
  obtain ⟨rfl, rfl⟩ := e
  exact ⟨r, hq, rfl⟩

set_option maxRecDepth 100000 in
set_option maxHeartbeats 1000000 in
theorem flMany (p : Int) (b M : Nat) (most each pat : Int) (ks : List (Int × Rq)) (w : World) (h : TB w b M most each pat ks) (hlen : ks.length ≤ 100000) :
    Calls Tryd.prog 43 #[.pointer (some ⟨b, 0, none⟩), .int .i64 p] w fun e w' => e = .returned (.int .i64 (many ks p)) ∧ Mod (fun _ => False) w w' := by
  have c3 : w.cell? ⟨b, 3, none⟩ = some (.map (some M)) := h.head.cell 3
  have hml := many_le ks p
  have hM := h.lt
  have hri := h.rising
  have HM := Lib.hid h.map
  have HRI := Lib.hid hri
  clear h hri
  go_enter Tryd.func43, Tryd.ntmps43
  go_wp2_with (at_range; refine range_start rfl _ rfl Tryd.underlying3 Tryd.underlying78 rfl HM.out ?_; intro w0 hr0 m0 z0)
  obtain ⟨B, hB⟩ : ∃ B, B = w.heap.size := ⟨_, rfl⟩
  rw [← hB] at hr0 hM ⊢
  have HR0 := Lib.hid hr0
  have HB := Lib.hid hB
  clear hr0 c3 hB z0
  go_frame
  go_loopw [5] (fun v wr => ∃ (c : Nat) (td : List (Int × Rq)), v = .int .i64 c ∧ c ≤ ks.length ∧ Hid (c + many td p = many ks p) ∧ Hid (Rising td) ∧ Hid (IRange Tryd.prog 3 wr M B (mpV rqv ks) (mpV rqv td)) ∧ Mod (· = B) w0 wr) (fun _ wr => wr.rangeLeft M B)
  case atStart => exact ⟨0, ks, rfl, Nat.zero_le _, Nat.zero_add _, HRI, HR0, Mod.refl _ _⟩
  case round =>
    obtain ⟨c, td, rfl, hc, hsum, hrt, hrg, hm⟩ := hrel
    go_wp2_with (at_next; refine range_next rfl _ rfl Tryd.underlying3 rfl hrg.out ?_ ?_)
    · intro hnil
      have htd : td = [] := by simpa [mpV] using hnil
      have hfin : c = many ks p := by have := hsum.out; rw [htd] at this; exact this
      have HF := Lib.hid hfin
      clear hnil htd hfin
      go_wp2_with fail
      go_ret
      exact ⟨by rw [HF.out]; rfl, m0.new hm (by intro i hi; have := HB.out; omega)⟩
    · intro x v w1 hx hmem hmem2 hrg1 hlt hm1 hz1 hen
      obtain ⟨r, hr, rfl⟩ := mem_mpV hmem
      rw [del_mpV] at hrg1
      have hdel := many_del p x r hrt.out hr
      have hrt1 := rising_del hrt.out x
      have hen' := hen
      unfold rqv at hen'
      have HS := Lib.hid hsum.out
      have HD := Lib.hid hdel
      have HRG := Lib.hid hrg1
      have HRT := Lib.hid hrt1
      have HLT := Lib.hid hlt
      have hmm := hm.trans hm1
      have hcl : c + 1 ≤ ks.length ∨ r.p ≠ p := by
        by_cases e : r.p = p
        · rw [if_pos e] at hdel
          have := hsum.out
          exact .inl (by omega)
        · exact .inr e
      unfold rqv
      clear hmem hmem2 hrg1 hlt hdel hrt1 hen hm hm1 hz1 hr
      have ma : Mod (fun _ => False) w1 (w1.alloc (.cells #[.int .i64 r.p, .int .i64 x, .int .i64 r.t] 44)) := (Mod.refl _ w1).alloc _
      have HRG2 := Lib.hid (HRG.out.new ma)
      have HL2 := Lib.hid (HRG.out.left ma)
      by_cases e : r.p = p
      · have e' : (r.p == p) = true := by simpa using e
        have hc1 : c + 1 ≤ ks.length := by rcases hcl with h | h; exact h; exact absurd e h
        have hd1 := HD.out
        rw [if_pos e] at hd1
        have HSUM := Lib.hid (show c + 1 + many (delL td x) p = many ks p by have := HS.out; omega)
        clear hd1 e hcl ma
        go_wp2_with fail
        exact ⟨⟨c + 1, delL td x, by go_num, hc1, HSUM, HRT, HRG2, hmm.alloc _⟩, by rw [HL2.out]; exact HLT.out⟩
      · have e' : (r.p == p) = false := by simpa using e
        have hd1 := HD.out
        rw [if_neg e] at hd1
        have HSUM := Lib.hid (show c + many (delL td x) p = many ks p by have := HS.out; omega)
        clear hd1 e hcl ma
        go_wp2_with fail
        exact ⟨⟨c, delL td x, rfl, hc, HSUM, HRT, HRG2, hmm.alloc _⟩, by rw [HL2.out]; exact HLT.out⟩

set_option maxRecDepth 100000 in
set_option maxHeartbeats 400000 in
theorem flDoneNo (k : Int) (b M : Nat) (most each pat : Int) (ks : List (Int × Rq)) (w : World) (hk : I64 k) (h : TB w b M most each pat ks) (hno : lkL ks k = none) :
    Calls Tryd.prog 28 #[.pointer (some ⟨b, 0, none⟩), .int .i64 k] w fun e w' => e = .returned (.tuple #[rq0, .int .i64 4]) ∧ Mod (fun _ => False) w w' := by
  have c3 : w.cell? ⟨b, 3, none⟩ = some (.map (some M)) := h.head.cell 3
  have hl : ∀ o, (Instr.lookup 78 (.map (some M)) (.int .i64 k) true).run Tryd.prog (w.alloc o) = .ok (.tuple #[rq0, .bool false]) (w.alloc o) := by
    intro o
    have := (h.map.alloc o).lookOk Tryd.underlying3 Tryd.underlying78 (zeroRq _) hk
    rw [lk_mpV, hno] at this
    exact this
  have hlt := h.lt
  have hz := zeroRq
  clear h hno
  go_enter Tryd.func28, Tryd.ntmps28
  go_wp2_with fail
  exact bodyPost_ret (v := .tuple #[.agg #[.int .i64 0, .int .i64 0, .int .i64 0], .int .i64 4]) (by simp [results, Tryd.results28, go_sem]) rfl ⟨rfl, by first | exact (((Mod.refl _ w).alloc _).alloc _) | exact (((Mod.refl _ w).alloc _).alloc _).setCell (.inr (by simp)) _⟩
end Go.Proofs.YtjmfhcliggjdgaaDoor.Fl

/- Package flight: Done, Ask; no condition. -/
namespace Go.Proofs.YtjmfhcliggjdgaaDoor.Fl
open Go Go.RowKit

set_option maxRecDepth 100000 in
set_option maxHeartbeats 1000000 in
theorem flDoneYes (k : Int) (r : Rq) (b M : Nat) (most each pat : Int) (ks : List (Int × Rq)) (w : World) (hk : I64 k) (h : TB w b M most each pat ks) (hyes : lkL ks k = some r) :
    Calls Tryd.prog 28 #[.pointer (some ⟨b, 0, none⟩), .int .i64 k] w fun e w' => e = .returned (.tuple #[rqv k r, .int .i64 0]) ∧ TB w' b M most each pat (delL ks k) ∧ Mod (· = M) w w' := by
  have c3 : w.cell? ⟨b, 3, none⟩ = some (.map (some M)) := h.head.cell 3
  have hl : ∀ o, (Instr.lookup 78 (.map (some M)) (.int .i64 k) true).run Tryd.prog (w.alloc o) = .ok (.tuple #[.agg #[.int .i64 r.p, .int .i64 k, .int .i64 r.t], .bool true]) (w.alloc o) := by
    intro o
    have := (h.map.alloc o).lookOk Tryd.underlying3 Tryd.underlying78 (zeroRq _) hk
    rw [lk_mpV, hyes] at this
    exact this
  have hlt := h.lt
  have hz := zeroRq
  obtain ⟨w3, hrun, him, hm3, hz3⟩ := ((h.map.alloc (.cells #[.int .i64 0, .int .i64 0, .int .i64 0] 44)).alloc (.cells #[.int .i64 r.p, .int .i64 k, .int .i64 r.t] 44)).del Tryd.underlying3 Tryd.underlying78 0 hk
  rw [del_mpV] at him
  have hA := ((Blk.new w #[.int .i64 0, .int .i64 0, .int .i64 0] 44).alloc (.cells #[.int .i64 r.p, .int .i64 k, .int .i64 r.t] 44)).mod hm3 (by show ¬ w.heap.size = M; omega)
  have hX := (Blk.new (w.alloc (.cells #[.int .i64 0, .int .i64 0, .int .i64 0] 44)) #[.int .i64 r.p, .int .i64 k, .int .i64 r.t] 44).mod hm3 (by show ¬ (w.alloc _).heap.size = M; simp; omega)
  have hs : (w.alloc (.cells #[.int .i64 0, .int .i64 0, .int .i64 0] 44)).heap.size = w.heap.size + 1 := by simp
  rw [hs] at hX
  have a0 := hA.cell 0; have a1 := hA.cell 1; have a2 := hA.cell 2
  have f0 := hA.frozen 0; have f1 := hA.frozen 1; have f2 := hA.frozen 2
  have d0 : (w3.setCell ⟨w.heap.size, 0, none⟩ (.int .i64 r.p)).cell? ⟨w.heap.size, 0, none⟩ = some (.int .i64 r.p) := (hA.set 0 _).cell 0
  have d1 : ((w3.setCell ⟨w.heap.size, 0, none⟩ (.int .i64 r.p)).setCell ⟨w.heap.size, 1, none⟩ (.int .i64 k)).cell? ⟨w.heap.size, 1, none⟩ = some (.int .i64 k) := ((hA.set 0 _).set 1 _).cell 1
  have d2 : (((w3.setCell ⟨w.heap.size, 0, none⟩ (.int .i64 r.p)).setCell ⟨w.heap.size, 1, none⟩ (.int .i64 k)).setCell ⟨w.heap.size, 2, none⟩ (.int .i64 r.t)).cell? ⟨w.heap.size, 2, none⟩ = some (.int .i64 r.t) := (((hA.set 0 _).set 1 _).set 2 _).cell 2
  have D0 := Lib.hid d0; have D1 := Lib.hid d1; have D2 := Lib.hid d2
  clear d0 d1 d2
  have x0 := hX.cell 0; have x1 := hX.cell 1; have x2 := hX.cell 2
  have hm : Mod (· = M) w w3 := (((Mod.refl (· = M) w).alloc _).alloc _).trans hm3
  have hT : TB w3 b M most each pat (delL ks k) := ⟨h.head.mod hm (fun e => h.ne e.symm), him, h.ne⟩
  have HT := Lib.hid hT
  have HM := Lib.hid hm
  have hB : w.heap.size < w3.heap.size := hA.lt
  clear h hyes hA hX him hm3 hm hT hs hz3
  go_enter Tryd.func28, Tryd.ntmps28
  go_wp2_with fail
  refine bodyPost_ret (v := .tuple #[.agg #[.int .i64 r.p, .int .i64 k, .int .i64 r.t], .int .i64 0]) (by simp [results, Tryd.results28, go_sem, D0.out, D1.out, D2.out]) rfl ⟨rfl, ?_, ?_⟩
  · have hs := ((Mod.refl (fun i => i = w.heap.size) w3).setCell (p := ⟨w.heap.size, 0, none⟩) (.inl rfl) (.int .i64 r.p)).setCell (p := ⟨w.heap.size, 1, none⟩) (.inl rfl) (.int .i64 k)
    exact HT.out.mod (hs.setCell (p := ⟨w.heap.size, 2, none⟩) (.inl rfl) (.int .i64 r.t)) (by show ¬ b = w.heap.size; omega) (by show ¬ M = w.heap.size; omega)
  · exact (((HM.out.setCell (.inr (Nat.le_refl _)) _).setCell (.inr (Nat.le_refl _)) _).setCell (.inr (Nat.le_refl _)) _)

/-- A load whose cell every stage has, though a call of the region makes new memory. -/
theorem reg_load0 {P : Program} {ops : Array Oper} {S : World → Prop} {ov : List (Nat × Nat)} {rd : List FuncId} {Q : World → Act → Prop} {i : Nat} {o : Oper} {rest : List Oper} {w : World} {a : Act}
    (hk : kd ov rd i o = 0) (hw : Region.wanted o (yielded ops a.tmps) = true) (v : Value) (t : TypeId) (x : Operand) (p : Addr) (ho : o.op = .load t x) (hx : a.eval x = .pointer (some p)) (ht : ∀ w, (isAgg t).run P w = .ok false w) (hc : ∀ w, S w → w.cell? p = some v)
    (h : wpReg P ops S ov rd Q (i + 1) rest w (a.put o.dst v)) : wpReg P ops S ov rd Q i (o :: rest) w a := by
  refine reg_any hk fun K hK => ?_
  unfold qOf
  rw [if_pos hw]
  refine ⟨v, fun w' hs => ?_, hK _ _ h⟩
  simp [execOp, ho, hx, Instr.loadAt, Instr.sureAddr, loadVar, load, Sem.run, hc w' hs, ht, Result.andThen, valUpon]

/-- What Ask answers. -/
def askE (most each : Int) (ks : List (Int × Rq)) (p k t : Int) : Int :=
  if ¬ (0 ≤ p ∧ p ≤ 65536 ∧ 0 ≤ k ∧ k ≤ 1023 ∧ 0 ≤ t ∧ t ≤ 1099511627776) then 1
  else if (lkL ks k).isSome then 5
  else if most ≤ (ks.length : Int) ∨ each ≤ (many ks p : Int) then 3
  else 0
/-- What Ask leaves. -/
def askK (most each : Int) (ks : List (Int × Rq)) (p k t : Int) : List (Int × Rq) := if askE most each ks p k t = 0 then putL ks k ⟨p, t⟩ else ks

set_option maxRecDepth 100000 in
set_option maxHeartbeats 2000000 in
theorem flAsk (p k t : Int) (b M : Nat) (most each pat : Int) (ks : List (Int × Rq)) (w : World) (hk : I64 k) (h : TB w b M most each pat ks) (hlen : ks.length ≤ 100000) :
    Calls Tryd.prog 24 #[.pointer (some ⟨b, 0, none⟩), .int .i64 p, .int .i64 k, .int .i64 t] w fun e w' => e = .returned (.int .i64 (askE most each ks p k t)) ∧ TB w' b M most each pat (askK most each ks p k t) ∧ Mod (· = M) w w' := by
  have c3 : w.cell? ⟨b, 3, none⟩ = some (.map (some M)) := h.head.cell 3
  obtain ⟨x, y, z, hx⟩ := rqAt_agg ks k
  have hl : (Instr.lookup 78 (.map (some M)) (.int .i64 k) true).run Tryd.prog w = .ok (.tuple #[.agg #[.int .i64 x, .int .i64 y, .int .i64 z], .bool (lkL ks k).isSome]) w := by
    have := h.map.lookOk Tryd.underlying3 Tryd.underlying78 (zeroRq _) hk
    rw [lk_mpV] at this
    rw [this, ← hx]
    unfold rqAt
    cases lkL ks k <;> rfl
  have hlt := h.lt
  have H := Lib.hid h
  have ma : Mod (fun _ => False) w (w.alloc (.cells #[.int .i64 x, .int .i64 y, .int .i64 z] 44)) := (Mod.refl _ w).alloc _
  have H1 := Lib.hid (h.new ma)
  have MA := Lib.hid (ma.mono (S' := (· = M)) (fun _ _ h => h.elim))
  have HK := Lib.hid hk
  clear h hx ma hk
  by_cases hin : 0 ≤ p ∧ p ≤ 65536 ∧ 0 ≤ k ∧ k ≤ 1023 ∧ 0 ≤ t ∧ t ≤ 1099511627776
  · obtain ⟨i1, i2, i3, i4, i5, i6⟩ := hin
    have e1 : (decide (0 ≤ p) && decide (p ≤ 65536)) = true := by simp [i1, i2]
    have e2 : (decide (0 ≤ k) && decide (k ≤ 1023)) = true := by simp [i3, i4]
    have e3 : (decide (0 ≤ t) && decide (t ≤ 1099511627776)) = true := by simp [i5, i6]
    cases hthere : (lkL ks k).isSome with
    | true =>
      have hE : askE most each ks p k t = 5 := by unfold askE; rw [if_neg (by simp; omega), if_pos hthere]
      have hK : askK most each ks p k t = ks := by unfold askK; rw [hE]; rfl
      rw [hE, hK]
      rw [hthere] at hl
      clear hE hK hthere i1 i2 i3 i4 i5 i6
      go_enter Tryd.func24, Tryd.ntmps24
      go_wp2_with fail
      refine (flWithin _ _ _ _).mono ?_; rw [e1]; rintro e w' ⟨rfl, rfl⟩
      go_wp2_with fail
      refine (flWithin _ _ _ _).mono ?_; rw [e2]; rintro e w' ⟨rfl, rfl⟩
      go_wp2_with fail
      refine (flWithin _ _ _ _).mono ?_; rw [e3]; rintro e w' ⟨rfl, rfl⟩
      go_wp2_with fail
      go_ret
      exact ⟨rfl, H1.out, MA.out⟩
    | false =>
      obtain ⟨w1, hw1⟩ : ∃ w1, w1 = w.alloc (.cells #[.int .i64 x, .int .i64 y, .int .i64 z] 44) := ⟨_, rfl⟩
      have hml := many_le ks p
      have hE : askE most each ks p k t = if most ≤ (ks.length : Int) ∨ each ≤ (many ks p : Int) then 3 else 0 := by
        unfold askE; rw [if_neg (by simp; omega), if_neg (by simp [hthere])]
      have HE := Lib.hid hE
      rw [hthere] at hl
      clear hE hthere i1 i2 i3 i4 i5 i6
      rw [← hw1] at H1 MA
      have c0 : w1.cell? ⟨b, 0, none⟩ = some (.int .i64 most) := H1.out.head.cell 0
      have c1 : w1.cell? ⟨b, 1, none⟩ = some (.int .i64 each) := H1.out.head.cell 1
      have c31 : w1.cell? ⟨b, 3, none⟩ = some (.map (some M)) := H1.out.head.cell 3
      have hln : ∀ n, (Builtin.len_ #[78] 3 #[.map (some M)]).run Tryd.prog (w1.drewN n) = .ok (.int .i64 (ks.length : Int)) (w1.drewN n) := by
        intro n
        have := (H1.out.drewN n).map.len (T := 78) Tryd.underlying78 3
        rw [len_mpV] at this
        exact this
      have HL := Lib.hid hlen
      by_cases hfull : most ≤ (ks.length : Int)
      · have hE3 : askE most each ks p k t = 3 := by rw [HE.out, if_pos (.inl hfull)]
        have hK3 : askK most each ks p k t = ks := by unfold askK; rw [hE3]; rfl
        rw [hE3, hK3]
        have ef : decide (most ≤ (ks.length : Int)) = true := by simpa using hfull
        clear hE3 hK3 HE hml hlen
        generalize (ks.length : Int) = L at hln hfull ef
        go_enter Tryd.func24, Tryd.ntmps24
        go_wp2_with fail
        refine (flWithin _ _ _ _).mono ?_; rw [e1]; rintro e w' ⟨rfl, rfl⟩
        go_wp2_with fail
        refine (flWithin _ _ _ _).mono ?_; rw [e2]; rintro e w' ⟨rfl, rfl⟩
        go_wp2_with fail
        refine (flWithin _ _ _ _).mono ?_; rw [e3]; rintro e w' ⟨rfl, rfl⟩
        rw [← hw1]
        clear hw1 hl c3 e1 e2 e3
        go_wp2_with fail
        refine wp_region2 [(17, 0)] [] (by kernel_rfl) (by kernel_rfl) ?_
        repeat (first | (refine reg_anyT (by rfl) (fun K hK => ?_); go_simp; refine hK _ _ ?_; clear hK K) | (refine reg_read (by rfl) (fun K hK => ?_); go_simp; refine hK _ _ ?_; clear hK K))
        refine reg_eff (by rfl) (fun rn K hK => ?_); go_simp; refine hK _ _ ?_; clear hK K
        repeat (first | (refine reg_anyT (by rfl) (fun K hK => ?_); go_simp; refine hK _ _ ?_; clear hK K) | (refine reg_read (by rfl) (fun K hK => ?_); go_simp; refine hK _ _ ?_; clear hK K))
        repeat (first | (refine reg_anyT (by rfl) (fun K hK => ?_); go_simp; refine hK _ _ ?_; clear hK K) | (refine reg_read (by rfl) (fun K hK => ?_); go_simp; refine hK _ _ ?_; clear hK K))
        refine reg_nil (fun nd => ?_)
        go_wp2_with fail
        go_ret
        exact ⟨rfl, (H1.out.drewN _).drewN _, (MA.out.drewN _).drewN _⟩
      · have ef : decide (most ≤ (ks.length : Int)) = false := by simpa using hfull
        by_cases hea : each ≤ (many ks p : Int)
        · have hE3 : askE most each ks p k t = 3 := by rw [HE.out, if_pos (.inr hea)]
          have hK3 : askK most each ks p k t = ks := by unfold askK; rw [hE3]; rfl
          rw [hE3, hK3]
          have eg : decide (each ≤ (many ks p : Int)) = true := by simpa using hea
          clear hE3 hK3 HE hml hlen
          generalize (ks.length : Int) = L at hln hfull ef
          go_enter Tryd.func24, Tryd.ntmps24
          go_wp2_with fail
          refine (flWithin _ _ _ _).mono ?_; rw [e1]; rintro e w' ⟨rfl, rfl⟩
          go_wp2_with fail
          refine (flWithin _ _ _ _).mono ?_; rw [e2]; rintro e w' ⟨rfl, rfl⟩
          go_wp2_with fail
          refine (flWithin _ _ _ _).mono ?_; rw [e3]; rintro e w' ⟨rfl, rfl⟩
          rw [← hw1]
          clear hw1 hl c3 e1 e2 e3
          go_wp2_with fail
          obtain ⟨S, hS⟩ : ∃ S : World → Prop, S = fun w' => w'.cell? ⟨b, 1, none⟩ = some (.int .i64 each) := ⟨_, rfl⟩
          refine wp_regionS [(17, 0)] [] S (by kernel_rfl) (by kernel_rfl) (by subst hS; intro n; exact c1) ?_
          repeat (first | (refine reg_anyT (by rfl) (fun K hK => ?_); go_simp; refine hK _ _ ?_; clear hK K) | (refine reg_read (by rfl) (fun K hK => ?_); go_simp; refine hK _ _ ?_; clear hK K))
          refine reg_effS (by rfl) (fun rn K hK => ?_); go_simp
          refine (flMany _ _ _ _ _ _ _ _ (H1.out.drewN rn) HL.out).mono ?_; rintro e w2 ⟨rfl, y1⟩
          refine hK _ _ ⟨fun m => by subst hS; exact (H1.out.new y1.undrew).head.cell 1, ?_⟩; clear hK K
          repeat (first | (refine reg_anyT (by rfl) (fun K hK => ?_); go_simp; refine hK _ _ ?_; clear hK K) | (refine reg_read (by rfl) (fun K hK => ?_); go_simp; refine hK _ _ ?_; clear hK K))
          refine reg_load0 (by rfl) (by rfl) (.int .i64 each) _ _ _ rfl rfl Tryd.isAgg3 (by subst hS; exact fun _ h => h) ?_
          repeat (first | (refine reg_anyT (by rfl) (fun K hK => ?_); go_simp; refine hK _ _ ?_; clear hK K) | (refine reg_read (by rfl) (fun K hK => ?_); go_simp; refine hK _ _ ?_; clear hK K))
          refine reg_nil (fun nd => ?_)
          go_wp2_with fail
          go_ret
          exact ⟨rfl, (H1.out.new y1.undrew).drewN _, (MA.out.trans (y1.undrew.mono (fun _ _ h => h.elim))).drewN _⟩
        · have hE0 : askE most each ks p k t = 0 := by rw [HE.out, if_neg (by simp only [not_or]; exact ⟨hfull, hea⟩)]
          have hK0 : askK most each ks p k t = putL ks k ⟨p, t⟩ := by unfold askK; rw [if_pos hE0]
          rw [hE0, hK0]
          have eg : decide (each ≤ (many ks p : Int)) = false := by simpa using hea
          clear hE0 hK0 HE hml hlen
          generalize (ks.length : Int) = L at hln hfull ef
          go_enter Tryd.func24, Tryd.ntmps24
          go_wp2_with fail
          refine (flWithin _ _ _ _).mono ?_; rw [e1]; rintro e w' ⟨rfl, rfl⟩
          go_wp2_with fail
          refine (flWithin _ _ _ _).mono ?_; rw [e2]; rintro e w' ⟨rfl, rfl⟩
          go_wp2_with fail
          refine (flWithin _ _ _ _).mono ?_; rw [e3]; rintro e w' ⟨rfl, rfl⟩
          rw [← hw1]
          clear hw1 hl c3 e1 e2 e3
          go_wp2_with fail
          obtain ⟨S, hS⟩ : ∃ S : World → Prop, S = fun w' => w'.cell? ⟨b, 1, none⟩ = some (.int .i64 each) := ⟨_, rfl⟩
          refine wp_regionS [(17, 0)] [] S (by kernel_rfl) (by kernel_rfl) (by subst hS; intro n; exact c1) ?_
          repeat (first | (refine reg_anyT (by rfl) (fun K hK => ?_); go_simp; refine hK _ _ ?_; clear hK K) | (refine reg_read (by rfl) (fun K hK => ?_); go_simp; refine hK _ _ ?_; clear hK K))
          refine reg_effS (by rfl) (fun rn K hK => ?_); go_simp
          refine (flMany _ _ _ _ _ _ _ _ (H1.out.drewN rn) HL.out).mono ?_; rintro e w2 ⟨rfl, y1⟩
          refine hK _ _ ⟨fun m => by subst hS; exact (H1.out.new y1.undrew).head.cell 1, ?_⟩; clear hK K
          repeat (first | (refine reg_anyT (by rfl) (fun K hK => ?_); go_simp; refine hK _ _ ?_; clear hK K) | (refine reg_read (by rfl) (fun K hK => ?_); go_simp; refine hK _ _ ?_; clear hK K))
          refine reg_load0 (by rfl) (by rfl) (.int .i64 each) _ _ _ rfl rfl Tryd.isAgg3 (by subst hS; exact fun _ h => h) ?_
          repeat (first | (refine reg_anyT (by rfl) (fun K hK => ?_); go_simp; refine hK _ _ ?_; clear hK K) | (refine reg_read (by rfl) (fun K hK => ?_); go_simp; refine hK _ _ ?_; clear hK K))
          refine reg_nil (fun nd => ?_)
          have H3 := Lib.hid ((H1.out.new y1.undrew).drewN nd)
          have M3 := Lib.hid ((MA.out.trans (y1.undrew.mono (fun _ _ h => h.elim))).drewN nd)
          generalize w2.drewN nd = w3 at H3 M3 ⊢
          have c33 : w3.cell? ⟨b, 3, none⟩ = some (.map (some M)) := H3.out.head.cell 3
          obtain ⟨w4, hrun, him, hm4, hz4⟩ := H3.out.map.put Tryd.underlying3 Tryd.underlying78 (by rw [len_mpV]; have := HL.out; unfold maxLen; omega) HK.out (rqv k ⟨p, t⟩)
          rw [put_mpV] at him
          have H4 : TB w4 b M most each pat (putL ks k ⟨p, t⟩) := ⟨H3.out.head.mod hm4 (fun e => H3.out.ne e.symm), him, H3.out.ne⟩
          have H4' := Lib.hid H4
          have M4 := Lib.hid (M3.out.trans hm4)
          unfold rqv at hrun
          clear y1 c0 c1 c31 him hm4 hz4 H4 hln
          go_wp2_with fail
          go_ret
          exact ⟨rfl, H4'.out, M4.out⟩
  · have hE : askE most each ks p k t = 1 := by unfold askE; rw [if_pos hin]
    have hK : askK most each ks p k t = ks := by unfold askK; rw [hE]; rfl
    rw [hE, hK]
    clear hE hK
    by_cases a1 : 0 ≤ p ∧ p ≤ 65536
    · have e1 : (decide (0 ≤ p) && decide (p ≤ 65536)) = true := by simp [a1.1, a1.2]
      by_cases a2 : 0 ≤ k ∧ k ≤ 1023
      · have e2 : (decide (0 ≤ k) && decide (k ≤ 1023)) = true := by simp [a2.1, a2.2]
        have e3 : (decide (0 ≤ t) && decide (t ≤ 1099511627776)) = false := by
          rw [Bool.and_eq_false_iff, decide_eq_false_iff_not, decide_eq_false_iff_not]; omega
        clear hin a1 a2
        go_enter Tryd.func24, Tryd.ntmps24
        go_wp2_with fail
        refine (flWithin _ _ _ _).mono ?_; rw [e1]; rintro e w' ⟨rfl, rfl⟩
        go_wp2_with fail
        refine (flWithin _ _ _ _).mono ?_; rw [e2]; rintro e w' ⟨rfl, rfl⟩
        go_wp2_with fail
        refine (flWithin _ _ _ _).mono ?_; rw [e3]; rintro e w' ⟨rfl, rfl⟩
        go_wp2_with fail
        go_ret
        exact ⟨rfl, H1.out, MA.out⟩
      · have e2 : (decide (0 ≤ k) && decide (k ≤ 1023)) = false := by
          rw [Bool.and_eq_false_iff, decide_eq_false_iff_not, decide_eq_false_iff_not]; omega
        clear hin a1 a2
        go_enter Tryd.func24, Tryd.ntmps24
        go_wp2_with fail
        refine (flWithin _ _ _ _).mono ?_; rw [e1]; rintro e w' ⟨rfl, rfl⟩
        go_wp2_with fail
        refine (flWithin _ _ _ _).mono ?_; rw [e2]; rintro e w' ⟨rfl, rfl⟩
        go_wp2_with fail
        go_ret
        exact ⟨rfl, H1.out, MA.out⟩
    · have e1 : (decide (0 ≤ p) && decide (p ≤ 65536)) = false := by
        rw [Bool.and_eq_false_iff, decide_eq_false_iff_not, decide_eq_false_iff_not]; omega
      clear hin a1
      go_enter Tryd.func24, Tryd.ntmps24
      go_wp2_with fail
      refine (flWithin _ _ _ _).mono ?_; rw [e1]; rintro e w' ⟨rfl, rfl⟩
      go_wp2_with fail
      go_ret
      exact ⟨rfl, H1.out, MA.out⟩
end Go.Proofs.YtjmfhcliggjdgaaDoor.Fl

/- Package flight: All. -/
namespace Go.Proofs.YtjmfhcliggjdgaaDoor.Fl
open Go Go.RowKit

def rqC (q : Int × Rq) : List Value := [.int .i64 q.2.p, .int .i64 q.1, .int .i64 q.2.t]
def rqL (ks : List (Int × Rq)) : List Value := ks.flatMap rqC
theorem rqL_take (ks : List (Int × Rq)) (k : Nat) (x : Int) (r : Rq) (h : ks[k]? = some (x, r)) : rqL (ks.take (k + 1)) = rqL (ks.take k) ++ [.int .i64 r.p, .int .i64 x, .int .i64 r.t] := by
  unfold rqL
  rw [List.take_add_one, h, List.flatMap_append]
  rfl
/-- What is handed back: a list of requests in new memory. -/
def RqsP (ks : List (Int × Rq)) (w : World) (e : Ending) (w' : World) : Prop := ∃ v, e = .returned v ∧ w'.ownsRow w.heap.size 44 3 v ks.length (rqL ks) ∧ Mod (fun _ => False) w w'
theorem infoRq : (Tryd.prog.info? 44).map (fun i => (i.zero, i.size, i.bytes)) = some (some rq0, 3, 24) := by kernel_rfl

set_option maxRecDepth 100000 in
set_option maxHeartbeats 1000000 in
theorem flAll (b M : Nat) (most each pat : Int) (ks : List (Int × Rq)) (w : World) (h : TB w b M most each pat ks) (hlen : ks.length ≤ 1000) (hI : ∀ q ∈ ks, I64 q.1) :
    Calls Tryd.prog 38 #[.pointer (some ⟨b, 0, none⟩)] w (RqsP ks w) := by
  have c3 : w.cell? ⟨b, 3, none⟩ = some (.map (some M)) := h.head.cell 3
  have hk := Tryd.maps_Keys_51 (some M) w
  have hs := Tryd.slices_Sorted_keys_51 M _ (toD (mpV rqv ks)) RV w h.map.owns (by rw [size_toD, len_mpV]; unfold maxLen; omega) (by rw [size_toD, len_mpV]; omega)
  have hr := h.map.rising
  have HK := Lib.hid hk
  have HS := Lib.hid hs
  have HR := Lib.hid hr
  have HT := Lib.hid h
  have HRI := Lib.hid h.rising
  have HI := Lib.hid hI
  clear h hk hs hr hI
  go_enter Tryd.func38, Tryd.ntmps38
  go_wp2_with fail
  refine HK.out.mono ?_; rintro e w1 ⟨rfl, rfl⟩
  go_wp2_with fail
  refine HS.out.mono ?_; rintro e w2 hq
  have hq2 := IntsP.of_sorted HR.out ((Mod.refl (fun _ => False) w).alloc _) hq
  obtain ⟨v, rfl, o, m⟩ := hq2
  rw [keys_mpV] at o
  clear hq
  have M2 := Lib.hid m
  obtain ⟨ol, o2⟩ := o
  have hkl : (keysL ks).length = ks.length := by simp [keysL]
  rw [hkl] at o2
  rcases o2 with ⟨rfl, hn⟩ | ⟨g, cap, cur, rfl, hg, hh, hcap, _, _, htk⟩
  · have hks : ks = [] := by simpa using hn
    subst hks
    clear ol hn m c3 hkl
    go_wp2_with fail
    go_loopw [3, 13] (fun v i wr => v = .slice none 0 0 ∧ i = .int .i64 0 ∧ wr = w2) (fun _ _ _ => 0)
    case atStart => exact ⟨rfl, rfl, rfl⟩
    case round =>
      obtain ⟨rfl, rfl, rfl⟩ := hrel
      go_wp2_with fail
      go_ret
      exact ⟨_, rfl, World.ownsRow_nil _ _ _ _, M2.out⟩
  · have hc : ∀ k x r, ks[k]? = some (x, r) → w2.cell? ⟨g, k, none⟩ = some (.int .i64 x) := by
      intro k x r hk
      have hlt : k < ks.length := (List.getElem?_eq_some_iff.1 hk).1
      have h1 := (show Blk w2 g cur _ from hh).cell k
      rw [h1, ← Array.getElem?_toList]
      have h2 := congrArg (fun l => l[k]?) htk
      simp only [List.getElem?_take] at h2
      rw [if_pos (by omega)] at h2
      rw [h2]
      simp [keysL, hk]
    have HC := Lib.hid hc
    have HG : Hid (g < w2.heap.size) := by show _ < _; exact (show Blk w2 g cur _ from hh).lt
    have hbd : ks.length ≤ cap := hcap
    clear ol hh hcap htk m c3 hc hg hkl
    go_wp2_with fail
    go_loopw [3, 13] (fun v i wr => ∃ k : Nat, i = .int .i64 k ∧ k ≤ ks.length ∧ Hid (wr.ownsRow w2.heap.size 44 3 v k (rqL (ks.take k))) ∧ Mod (fun _ => False) w2 wr) (fun _ i _ => ks.length - (intOf i).toNat)
    case atStart => exact ⟨0, rfl, Nat.zero_le _, World.ownsRow_nil _ _ _ _, Mod.refl _ _⟩
    case round =>
      obtain ⟨k, rfl, hk, hown, hm⟩ := hrel
      by_cases hlt : (k : Int) < ks.length
      · obtain ⟨⟨x, r⟩, hkr⟩ : ∃ q, ks[k]? = some q := ⟨_, List.getElem?_eq_getElem (by omega)⟩
        have hmem : (x, r) ∈ ks := List.mem_of_getElem? hkr
        have ck := hm.cell (HC.out k x r hkr) (fun h => h)
        have hT := (HT.out.new M2.out).new hm
        have hl : (Instr.lookup 78 (.map (some M)) (.int .i64 x) false).run Tryd.prog wr = .ok (.agg #[.int .i64 r.p, .int .i64 x, .int .i64 r.t]) wr := by
          have := hT.map.look Tryd.underlying3 Tryd.underlying78 (zeroRq _) (HI.out _ hmem)
          rw [lk_mpV, lk_of_mem HRI.out hmem] at this
          exact this
        have c3 : wr.cell? ⟨b, 3, none⟩ = some (.map (some M)) := hT.head.cell 3
        have HM := Lib.hid hm
        have HTK := Lib.hid (rqL_take ks k x r hkr)
        clear hT hmem hkr hm
        go_wp2_with (at_builtin; refine appK rfl (.tmp 17) (.tmp 24) 33 44 3 rfl Tryd.underlying33 infoRq rfl (by decide) _ _ _ #[.int .i64 r.p, .int .i64 x, .int .i64 r.t] rfl HM.out hown.out rfl rfl (by simp [Value.oneCell']) (by decide) (by omega) ?_; intro v' w' g1 g2 _)
        have G1 := Lib.hid g1
        clear g1
        go_wp2_with fail
        go_roundw
        case rel => exact ⟨k + 1, by go_num, by omega, by show World.ownsRow _ _ _ _ _ _ _; rw [HTK.out]; exact G1.out, g2⟩
        case measure => simp [intOf]; omega
      · have hkn : k = ks.length := by omega
        have hO := hown.out
        rw [hkn, List.take_length] at hO
        have HO := Lib.hid hO
        have HM := Lib.hid hm
        clear hkn hm hown hO
        go_wp2_with fail
        go_ret
        exact ⟨_, rfl, HO.out.mono M2.out.size, M2.out.trans HM.out⟩
end Go.Proofs.YtjmfhcliggjdgaaDoor.Fl

/- Package flight: what Drop and Late ask of a request. -/
namespace Go.Proofs.YtjmfhcliggjdgaaDoor.Fl
open Go Go.RowKit

set_option maxRecDepth 100000 in
set_option maxHeartbeats 1000000 in
theorem flDrop1 (p k t q : Int) (g : Nat) (w : World) (hc : w.cell? ⟨g, 0, none⟩ = some (.int .i64 q)) :
    Calls Tryd.prog 48 #[.agg #[.int .i64 p, .int .i64 k, .int .i64 t], .pointer (some ⟨g, 0, none⟩)] w fun e w' => e = .returned (.bool (p == q)) ∧ Mod (fun _ => False) w w' := by
  have hg : g < w.heap.size := World.block_lt_of_cell? w _ hc
  have hne : ¬ w.heap.size = g := by omega
  go_enter Tryd.func48, Tryd.ntmps48
  go_wp2_with fail
  go_ret
  exact ⟨rfl, (Mod.refl _ w).alloc _⟩

end Go.Proofs.YtjmfhcliggjdgaaDoor.Fl

/- Package flight: out. -/
namespace Go.Proofs.YtjmfhcliggjdgaaDoor.Fl
open Go Go.RowKit

theorem owns_new {w w' : World} {base : Nat} {e : TypeId} {size : Nat} {v : Value} {n : Nat} {xs : List Value} (h : w.ownsRow base e size v n xs) (hm : Mod (fun _ => False) w w') : w'.ownsRow base e size v n xs := by
  obtain ⟨h1, h2⟩ := h
  rcases h2 with h2 | ⟨g, cap, cur, hv, hb, hh, rest⟩
  · exact ⟨h1, .inl h2⟩
  · exact ⟨h1, .inr ⟨g, cap, cur, hv, hb, (show Blk w g cur e from hh).mod hm (fun h => h), rest⟩⟩
theorem owns_mod {S : Nat → Prop} {w w' : World} {base : Nat} {e : TypeId} {size : Nat} {v : Value} {n : Nat} {xs : List Value} (h : w.ownsRow base e size v n xs) (hm : Mod S w w') (hS : ∀ i, base ≤ i → ¬ S i) : w'.ownsRow base e size v n xs := by
  obtain ⟨h1, h2⟩ := h
  rcases h2 with h2 | ⟨g, cap, cur, hv, hb, hh, rest⟩
  · exact ⟨h1, .inl h2⟩
  · exact ⟨h1, .inr ⟨g, cap, cur, hv, hb, (show Blk w g cur e from hh).mod hm (hS g hb), rest⟩⟩
theorem rqL_get : ∀ (ks : List (Int × Rq)) (k j : Nat) (x : Int) (r : Rq), ks[k]? = some (x, r) → j < 3 → (rqL ks)[k * 3 + j]? = (rqC (x, r))[j]?
  | [], k, j, x, r, h, hj => by simp at h
  | q :: t, 0, j, x, r, h, hj => by
    simp at h
    subst h
    show (rqC (x, r) ++ rqL t)[0 * 3 + j]? = _
    rw [Nat.zero_mul, Nat.zero_add, List.getElem?_append_left (by simpa [rqC] using hj)]
  | q :: t, k + 1, j, x, r, h, hj => by
    show (rqC q ++ rqL t)[(k + 1) * 3 + j]? = _
    rw [List.getElem?_append_right (by simp [rqC]; omega), show (k + 1) * 3 + j - (rqC q).length = k * 3 + j by simp [rqC]; omega]
    exact rqL_get t k j x r (by simpa using h) hj
/-- The map behind the first rows of l. -/
def leftL (φ : Int × Rq → Bool) (l ks : List (Int × Rq)) : List (Int × Rq) := l.foldl (fun ks q => if φ q then delL ks q.1 else ks) ks
theorem leftL_add (φ : Int × Rq → Bool) (l ks : List (Int × Rq)) (q : Int × Rq) : leftL φ (l ++ [q]) ks = if φ q then delL (leftL φ l ks) q.1 else leftL φ l ks := by
  unfold leftL
  rw [List.foldl_append]
  rfl
theorem leftL_filter (φ : Int × Rq → Bool) : ∀ (l ks : List (Int × Rq)), leftL φ l ks = ks.filter fun q => l.all fun x => !φ x || q.1 != x.1
  | [], ks => by
    rw [List.filter_eq_self.2 (by simp)]; rfl
  | y :: l, ks => by
    show leftL φ l (if φ y then delL ks y.1 else ks) = _
    rw [leftL_filter φ l]
    by_cases h : φ y = true
    · rw [if_pos h]
      unfold delL
      rw [List.filter_filter]
      refine List.filter_congr fun q _ => ?_
      by_cases e : q.1 = y.1 <;> simp [h, e]
    · rw [if_neg h]
      refine List.filter_congr fun q _ => ?_
      simp [h]
theorem leftL_all (φ : Int × Rq → Bool) (ks : List (Int × Rq)) (hr : Rising ks) : leftL φ ks ks = ks.filter fun q => !φ q := by
  rw [leftL_filter]
  refine List.filter_congr fun q hq => ?_
  cases h : φ q with
  | true =>
    simp only [Bool.not_true]
    rw [List.all_eq_false]
    exact ⟨q, hq, by simp [h]⟩
  | false =>
    simp only [Bool.not_false]
    rw [List.all_eq_true]
    intro x hx
    by_cases e : q.1 = x.1
    · have h1 := lk_of_mem hr (k := q.1) (v := q.2) hq
      have h2 := lk_of_mem hr (k := x.1) (v := x.2) hx
      rw [← e, h1] at h2
      have : q = x := Prod.ext e (Option.some.inj h2)
      rw [← this, h]; rfl
    · simp [e]
theorem filter_take (φ : Int × Rq → Bool) (ks : List (Int × Rq)) (k : Nat) (q : Int × Rq) (h : ks[k]? = some q) : (ks.take (k + 1)).filter φ = (ks.take k).filter φ ++ if φ q then [q] else [] := by
  rw [List.take_add_one, h, List.filter_append]
  cases hq : φ q <;> simp [hq]

set_option maxRecDepth 100000 in
set_option maxHeartbeats 1000000 in
theorem flOut (F : FuncId) (caps : Array Value) (φ : Int × Rq → Bool) (b M : Nat) (most each pat : Int) (ks : List (Int × Rq)) (w : World) (h : TB w b M most each pat ks) (hlen : ks.length ≤ 1000) (hI : ∀ q ∈ ks, I64 q.1)
    (hE : ∀ args w, (callFunc F args).run Tryd.prog w = .ok (.enter F args) w)
    (hF : ∀ (w' : World) (ks' : List (Int × Rq)) (k : Int) (r : Rq), TB w' b M most each pat ks' → Mod (· = M) w w' → (k, r) ∈ ks → Calls Tryd.prog F (#[.agg #[.int .i64 r.p, .int .i64 k, .int .i64 r.t]] ++ caps) w' fun e w'' => e = .returned (.bool (φ (k, r))) ∧ Mod (fun _ => False) w' w'') :
    Calls Tryd.prog 47 #[.pointer (some ⟨b, 0, none⟩), .func (.func F) #[] caps] w fun e w' => (∃ v, e = .returned v ∧ w'.ownsRow w.heap.size 44 3 v (ks.filter φ).length (rqL (ks.filter φ))) ∧ TB w' b M most each pat (ks.filter fun q => !φ q) ∧ Mod (· = M) w w' := by
  have H := Lib.hid h
  have HRI := Lib.hid h.rising
  have HI := Lib.hid hI
  have HF := Lib.hid hF
  clear h hI hF
  go_enter Tryd.func47, Tryd.ntmps47
  go_wp2_with fail
  refine (flAll _ _ _ _ _ _ _ H.out hlen HI.out).mono ?_; rintro e w2 ⟨v, rfl, o, m⟩
  obtain ⟨ol, o2⟩ := o
  have M2 := Lib.hid m
  rcases o2 with ⟨rfl, hn⟩ | ⟨g, cap, cur, rfl, hg, hh, hcap, _, _, htk⟩
  · have hks : ks = [] := by simpa using hn
    subst hks
    clear ol hn m
    go_wp2_with fail
    go_loopw [5, 11] (fun v i wr => v = .slice none 0 0 ∧ i = .int .i64 0 ∧ wr = w2) (fun _ _ _ => 0)
    case atStart => exact ⟨rfl, rfl, rfl⟩
    case round =>
      obtain ⟨rfl, rfl, rfl⟩ := hrel
      go_wp2_with fail
      go_ret
      exact ⟨⟨_, rfl, World.ownsRow_nil _ _ _ _⟩, H.out.new M2.out, M2.out.mono (fun _ _ h => h.elim)⟩
  · have hB := (show Blk w2 g cur _ from hh)
    have hc : ∀ (k : Nat) (x : Int) (r : Rq), ks[k]? = some (x, r) → w2.cell? ((⟨g, 0, none⟩ : Addr).add (k * 3)) = some (.int .i64 r.p) ∧ w2.cell? ⟨((⟨g, 0, none⟩ : Addr).add (k * 3)).block, ((⟨g, 0, none⟩ : Addr).add (k * 3)).off + 1, none⟩ = some (.int .i64 x) ∧ w2.cell? ⟨((⟨g, 0, none⟩ : Addr).add (k * 3)).block, ((⟨g, 0, none⟩ : Addr).add (k * 3)).off + 2, none⟩ = some (.int .i64 r.t) := by
      intro k x r hk
      have ea : (⟨g, 0, none⟩ : Addr).add (k * 3) = ⟨g, k * 3, none⟩ := by
        cases h : k * 3 with
        | zero => rfl
        | succ n => simp [Addr.add]
      have hlt : k < ks.length := (List.getElem?_eq_some_iff.1 hk).1
      have hgt : ∀ (j : Nat) (u : Value), j < 3 → (rqC (x, r))[j]? = some u → w2.cell? ⟨g, k * 3 + j, none⟩ = some u := by
        intro j u hj hu
        rw [hB.cell, ← Array.getElem?_toList]
        have h2 := congrArg (fun l => l[k * 3 + j]?) htk
        simp only [List.getElem?_take] at h2
        rw [if_pos (by omega)] at h2
        rw [h2, rqL_get ks k j x r hk hj, hu]
      rw [ea]
      exact ⟨hgt 0 _ (by decide) rfl, hgt 1 _ (by decide) rfl, hgt 2 _ (by decide) rfl⟩
    obtain ⟨X, hX⟩ : ∃ X : Addr, X = ⟨g, 0, none⟩ := ⟨_, rfl⟩
    have hXM : ∀ n j, ¬ (X.add n).block = M ∧ ¬ (⟨(X.add n).block, (X.add n).off + j, none⟩ : Addr).block = M := by
      intro n j
      have := H.out.lt.2
      have e : ((⟨g, 0, none⟩ : Addr).add n).block = g := by cases n <;> rfl
      subst hX
      constructor
      · rw [e]; omega
      · show ¬ ((⟨g, 0, none⟩ : Addr).add n).block = M
        rw [e]; omega
    rw [← hX] at hc ⊢
    have HC := Lib.hid hc
    have hbd : ks.length ≤ cap := hcap
    clear ol hh hcap htk m hc hg hB hX
    go_wp2_with fail
    go_loopw [5, 11] (fun v i wr => ∃ k : Nat, i = .int .i64 k ∧ k ≤ ks.length ∧ Hid (wr.ownsRow w2.heap.size 44 3 v ((ks.take k).filter φ).length (rqL ((ks.take k).filter φ))) ∧ Hid (TB wr b M most each pat (leftL φ (ks.take k) ks)) ∧ Mod (· = M) w2 wr) (fun _ i _ => ks.length - (intOf i).toNat)
    case atStart => exact ⟨0, rfl, Nat.zero_le _, World.ownsRow_nil _ _ _ _, H.out.new M2.out, Mod.refl _ _⟩
    case round =>
      obtain ⟨k, rfl, hk, hown, hT, hm⟩ := hrel
      by_cases hlt : (k : Int) < ks.length
      · obtain ⟨⟨x, r⟩, hkr⟩ : ∃ q, ks[k]? = some q := ⟨_, List.getElem?_eq_getElem (by omega)⟩
        have hmem : (x, r) ∈ ks := List.mem_of_getElem? hkr
        obtain ⟨p0, p1, p2⟩ := HC.out k x r hkr
        have q0 := hm.cell p0 (by exact (hXM _ 0).1)
        have q1 := hm.cell p1 (by exact (hXM _ 1).2)
        have q2 := hm.cell p2 (by exact (hXM _ 2).2)
        have HM := Lib.hid hm
        have HL := Lib.hid (leftL_add φ (ks.take k) ks (x, r))
        have HFT := Lib.hid (filter_take φ ks k (x, r) hkr)
        have HTK := Lib.hid (show ks.take (k + 1) = ks.take k ++ [(x, r)] by rw [List.take_add_one, hkr]; rfl)
        have hw0 := hT.out.lt
        have HME := Lib.hid hmem
        clear p0 p1 p2 hkr hm hmem
        go_wp2_with fail
        refine (HF.out _ _ x r (hT.out.new ((Mod.refl (fun _ => False) wr).alloc _)) (((M2.out.mono (fun _ _ h => h.elim)).trans HM.out).alloc _) HME.out).mono ?_; rintro e w3 ⟨rfl, m3⟩
        have m13 := ((Mod.refl (fun _ => False) wr).alloc (.cells #[.int .i64 r.p, .int .i64 x, .int .i64 r.t] 44)).trans m3
        have T3 := Lib.hid (hT.out.new m13)
        have O3 := Lib.hid (owns_new hown.out m13)
        have MM3 := Lib.hid (HM.out.trans (m13.mono (fun _ _ h => h.elim)))
        have B3 := (Blk.new wr #[.int .i64 r.p, .int .i64 x, .int .i64 r.t] 44).mod m3 (fun h => h)
        have b0 := B3.cell 0; have b1 := B3.cell 1; have b2 := B3.cell 2
        have B3H := Lib.hid B3
        clear B3 m3 m13 q0 q1 q2
        cases hφ : φ (x, r) with
        | false =>
          have hk1 : ks.length - (k + 1) < ks.length - k := by omega
          go_wp2_with fail
          refine ⟨⟨k + 1, by go_num, by omega, ?_, ?_, MM3.out⟩, by simp [intOf]; omega⟩
          · show World.ownsRow _ _ _ _ _ _ _
            rw [HFT.out, hφ]
            simpa using O3.out
          · show TB _ _ _ _ _ _ _
            rw [HTK.out, HL.out, hφ]
            exact T3.out
        | true =>
          have c3 : w3.cell? ⟨b, 3, none⟩ = some (.map (some M)) := T3.out.head.cell 3
          go_wp2_with fail
          refine wp_region2 [] [] (by kernel_rfl) (by kernel_rfl) ?_
          repeat (first | (refine reg_anyT (by rfl) (fun K hK => ?_); go_simp; refine hK _ _ ?_; clear hK K) | (refine reg_read (by rfl) (fun K hK => ?_); go_simp; refine hK _ _ ?_; clear hK K))
          refine reg_eff (by rfl) (fun rn K hK => ?_)
          obtain ⟨w4, hrun, him, hm4, hz4⟩ := (T3.out.drewN rn).map.del Tryd.underlying3 Tryd.underlying78 0 (HI.out _ HME.out)
          go_simp
          refine hK _ _ ?_; clear hK K
          rw [del_mpV] at him
          refine reg_nil (fun nd => ?_)
          have hlt3 := T3.out.lt
          have hMw : ¬ wr.heap.size = M := by omega
          have B4 := (show Blk (w3.drewN rn) wr.heap.size _ _ from B3H.out).mod hm4 hMw
          have B5 := Lib.hid (show Blk (w4.drewN nd) wr.heap.size #[.int .i64 r.p, .int .i64 x, .int .i64 r.t] 44 from B4)
          have T5 : Hid (TB (w4.drewN nd) b M most each pat (delL (leftL φ (ks.take k) ks) x)) := (show TB w4 b M most each pat (delL (leftL φ (ks.take k) ks) x) from ⟨(T3.out.drewN rn).head.mod hm4 (fun e => T3.out.ne e.symm), him, T3.out.ne⟩).drewN nd
          have hM2 : M < w2.heap.size := by have := H.out.lt.2; have := M2.out.size; omega
          have hb2 : b < w2.heap.size := by have := H.out.lt.1; have := M2.out.size; omega
          have O5 : Hid ((w4.drewN nd).ownsRow w2.heap.size 44 3 u5 ((ks.take k).filter φ).length (rqL ((ks.take k).filter φ))) := owns_mod (S := (· = M)) (w := w3.drewN rn) (w' := w4.drewN nd) O3.out (hm4.drewN nd) (fun i hi (e : i = M) => by omega)
          have M5 := Lib.hid (((MM3.out.drewN rn).trans hm4).drewN nd)
          generalize w4.drewN nd = w5 at B5 T5 M5 O5 ⊢
          have d0 := B5.out.cell 0; have d1 := B5.out.cell 1; have d2 := B5.out.cell 2
          have hlen1 : ((ks.take k).filter φ).length ≤ 1000 := by
            have := List.length_filter_le φ (ks.take k)
            have h2 : (ks.take k).length ≤ k := List.length_take_le _ _
            omega
          clear B4 hm4 him hz4 hrun b0 b1 b2 c3
          go_wp2_with (at_builtin; refine appK rfl (.tmp 24) (.tmp 26) 33 44 3 rfl Tryd.underlying33 infoRq rfl (by decide) _ _ _ #[.int .i64 r.p, .int .i64 x, .int .i64 r.t] rfl M5.out O5.out rfl rfl (by simp [Value.oneCell']) (by decide) (by omega) ?_; intro v' w' g1 g2 g3)
          have G1 := Lib.hid g1
          have T6 := Lib.hid (T5.out.mod g3 (by show ¬ _ ≤ b; omega) (by show ¬ _ ≤ M; omega))
          clear g1 g3
          go_wp2_with fail
          refine ⟨⟨k + 1, by go_num, by omega, ?_, ?_, g2⟩, by simp [intOf]; omega⟩
          · show World.ownsRow _ _ _ _ _ _ _
            rw [HFT.out, hφ]
            have := G1.out
            simpa [rqL, rqC] using this
          · show TB _ _ _ _ _ _ _
            rw [HTK.out, HL.out, hφ]
            exact T6.out
      · have hkn : k = ks.length := by omega
        have hO := hown.out
        rw [hkn, List.take_length] at hO
        have hT2 := hT.out
        rw [hkn, List.take_length, leftL_all φ ks HRI.out] at hT2
        have HO := Lib.hid hO
        have HT := Lib.hid hT2
        have HM := Lib.hid hm
        clear hkn hm hown hO hT hT2
        go_wp2_with fail
        go_ret
        exact ⟨⟨_, rfl, HO.out.mono M2.out.size⟩, HT.out, (M2.out.mono (fun _ _ h => h.elim)).trans HM.out⟩
end Go.Proofs.YtjmfhcliggjdgaaDoor.Fl

/- Package flight: Drop. -/
namespace Go.Proofs.YtjmfhcliggjdgaaDoor.Fl
open Go Go.RowKit

set_option maxRecDepth 100000 in
set_option maxHeartbeats 400000 in
theorem flDrop (q : Int) (b M : Nat) (most each pat : Int) (ks : List (Int × Rq)) (w : World) (h : TB w b M most each pat ks) (hlen : ks.length ≤ 1000) (hI : ∀ q ∈ ks, I64 q.1) :
    Calls Tryd.prog 30 #[.pointer (some ⟨b, 0, none⟩), .int .i64 q] w fun e w' => (∃ v, e = .returned v ∧ w'.ownsRow w.heap.size 44 3 v (ks.filter fun x => x.2.p == q).length (rqL (ks.filter fun x => x.2.p == q))) ∧ TB w' b M most each pat (ks.filter fun x => !(x.2.p == q)) ∧ Mod (· = M) w w' := by
  have m1 := (Mod.refl (fun _ => False) w).alloc (.cells #[.int .i64 q] 3)
  have H1 := Lib.hid (h.new m1)
  have B1 := Lib.hid (Blk.new w #[.int .i64 q] 3)
  have hlt := h.lt
  have HM1 := Lib.hid m1
  clear h m1
  go_enter Tryd.func30, Tryd.ntmps30
  go_wp2_with fail
  refine (flOut 48 #[.pointer (some ⟨w.heap.size, 0, none⟩)] (fun x => x.2.p == q) b M most each pat ks _ H1.out hlen hI (fun _ _ => rfl) (fun w' ks' k r _ hm _ => flDrop1 r.p k r.t q w.heap.size w' (hm.cell (B1.out.cell 0) (by show ¬ w.heap.size = M; omega)))).mono ?_
  rintro e w2 ⟨⟨v, rfl, o⟩, t2, m2⟩
  go_wp2_with fail
  go_ret
  exact ⟨⟨v, rfl, o.mono HM1.out.size⟩, t2, (HM1.out.mono (fun _ _ h => h.elim)).trans m2⟩
end Go.Proofs.YtjmfhcliggjdgaaDoor.Fl

/- The laws on flight: what may be in a table; awake; no condition. -/
namespace Go.Proofs.YtjmfhcliggjdgaaDoor.Fl
open Go Go.RowKit

abbrev TRq : TypeId := 44

theorem rqEl {w : World} {a : Option Addr} {n : Nat} {ks : List (Int × Rq)} (h : Els w a 3 n (rqL ks)) (hn : ks.length ≤ n) {i : Nat} {x : Int} {r : Rq} (hi : ks[i]? = some (x, r)) :
    ∃ X, a = some X ∧ w.cell? (X.add (i * 3)) = some (.int .i64 r.p) ∧ w.cell? ⟨(X.add (i * 3)).block, (X.add (i * 3)).off + 1, none⟩ = some (.int .i64 x) ∧ w.cell? ⟨(X.add (i * 3)).block, (X.add (i * 3)).off + 2, none⟩ = some (.int .i64 r.t) := by
  have hl := (List.getElem?_eq_some_iff.1 hi).1
  obtain ⟨X, rfl, h1, h2⟩ := h i (by omega)
  exact ⟨X, rfl, h1 _ (rqL_get ks i 0 x r hi (by decide)), h2 1 _ (rqL_get ks i 1 x r hi (by decide)) (by decide), h2 2 _ (rqL_get ks i 2 x r hi (by decide)) (by decide)⟩

/-- What holds of a table's rows. -/
structure Okk (most each : Int) (ks : List (Int × Rq)) : Prop where
  rising : Rising ks
  len : (ks.length : Int) ≤ most
  many : ∀ p, (many ks p : Int) ≤ each
  rng : ∀ q ∈ ks, 0 ≤ q.1 ∧ q.1 ≤ 1023 ∧ (0 ≤ q.2.t ∧ q.2.t ≤ 1099511627776) ∧ 0 ≤ q.2.p ∧ q.2.p ≤ 65536
theorem Okk.nil (most each : Int) (h1 : 0 ≤ most) (h2 : 0 ≤ each) : Okk most each [] := ⟨List.Pairwise.nil, by simpa using h1, fun p => by simpa [Go.Proofs.YtjmfhcliggjdgaaDoor.Fl.many] using h2, fun q h => by simp at h⟩
theorem Okk.filter {most each : Int} {ks : List (Int × Rq)} (h : Okk most each ks) (φ : Int × Rq → Bool) : Okk most each (ks.filter φ) := by
  refine ⟨List.Pairwise.filter _ h.rising, ?_, fun p => ?_, fun q hq => h.rng q (List.mem_filter.1 hq).1⟩
  · have := List.length_filter_le φ ks
    have := h.len
    omega
  · have h1 := h.many p
    have h2 : Go.Proofs.YtjmfhcliggjdgaaDoor.Fl.many (ks.filter φ) p ≤ Go.Proofs.YtjmfhcliggjdgaaDoor.Fl.many ks p := by
      unfold Go.Proofs.YtjmfhcliggjdgaaDoor.Fl.many
      rw [List.filter_filter, show (fun a : Int × Rq => (a.2.p == p) && φ a) = fun a => φ a && (a.2.p == p) from funext fun a => Bool.and_comm _ _, ← List.filter_filter]
      exact List.length_filter_le _ _
    omega
theorem Okk.del {most each : Int} {ks : List (Int × Rq)} (h : Okk most each ks) (k : Int) : Okk most each (delL ks k) := h.filter _
theorem many_insS (x : Int × Rq) (p : Int) : ∀ ks : List (Int × Rq), many (insS x ks) p = many ks p + if x.2.p = p then 1 else 0
  | [] => by
    unfold insS many
    by_cases e : x.2.p = p <;> simp [e]
  | y :: t => by
    unfold insS
    by_cases h : x.1 < y.1
    · rw [if_pos h]
      unfold many
      rw [List.filter_cons]
      by_cases e : x.2.p = p <;> simp [e]
    · rw [if_neg h]
      have := many_insS x p t
      unfold many at this ⊢
      rw [List.filter_cons, List.filter_cons]
      by_cases e : (y.2.p == p) = true
      · rw [if_pos e, if_pos e, List.length_cons, List.length_cons, this]; omega
      · rw [if_neg e, if_neg e, this]
theorem Okk.ask {most each : Int} {ks : List (Int × Rq)} (h : Okk most each ks) (p k t : Int) : Okk most each (askK most each ks p k t) := by
  unfold askK
  split
  · rename_i he
    unfold askE at he
    split at he
    · cases he
    · rename_i hin
      split at he
      · cases he
      · rename_i hno
        split at he
        · cases he
        · rename_i hful
          have hin := Classical.not_not.1 hin
          have hn : lkL ks k = none := by simpa using hno
          simp only [not_or] at hful
          have hd : putL ks k (⟨p, t⟩ : Rq) = insS (k, ⟨p, t⟩) ks := by unfold putL; rw [del_of_none hn]
          refine ⟨rising_put h.rising _ _, ?_, fun p' => ?_, fun q hq => ?_⟩
          · rw [hd, length_insS]; omega
          · rw [hd, many_insS]
            have := h.many p'
            by_cases e : p = p'
            · subst e; rw [if_pos rfl]; omega
            · rw [if_neg e]; omega
          · rw [hd, mem_insS] at hq
            rcases hq with rfl | hq
            · exact ⟨hin.2.2.1, hin.2.2.2.1, hin.2.2.2.2, hin.1, hin.2.1⟩
            · exact h.rng q hq
  · exact h
theorem Okk.i64 {most each : Int} {ks : List (Int × Rq)} (h : Okk most each ks) : ∀ q ∈ ks, I64 q.1 := fun q hq => by
  have := h.rng q hq
  show (Lit.int .i64 q.1).wf = true
  simp [Lit.wf, IntKind.min, IntKind.max, IntKind.signed, IntKind.bits]; omega
theorem Okk.tm {most each : Int} {ks : List (Int × Rq)} (h : Okk most each ks) : ∀ q ∈ ks, 0 ≤ q.2.t ∧ q.2.t ≤ 1099511627776 := fun q hq => (h.rng q hq).2.2.1

theorem Okk.pr {most each : Int} {ks : List (Int × Rq)} (h : Okk most each ks) {q : Int × Rq} (hq : q ∈ ks) : I64 q.2.p := by
  have := (h.rng q hq).2.2.2
  show (Lit.int .i64 q.2.p).wf = true
  simp [Lit.wf, IntKind.min, IntKind.max, IntKind.signed, IntKind.bits]; omega


/-- What Done answers. -/
def doneE (ks : List (Int × Rq)) (k : Int) : Int := if (lkL ks k).isSome then 0 else 4
theorem flDone (k : Int) (b M : Nat) (most each pat : Int) (ks : List (Int × Rq)) (w : World) (hk : I64 k) (h : TB w b M most each pat ks) :
    Calls Tryd.prog 28 #[.pointer (some ⟨b, 0, none⟩), .int .i64 k] w fun e w' => e = .returned (.tuple #[rqAt ks k, .int .i64 (doneE ks k)]) ∧ TB w' b M most each pat (delL ks k) ∧ Mod (· = M) w w' := by
  cases hl : lkL ks k with
  | none =>
    rw [del_of_none hl, show rqAt ks k = rq0 by unfold rqAt; rw [hl]; rfl, show doneE ks k = 4 by unfold doneE; rw [hl]; rfl]
    exact (flDoneNo k b M most each pat ks w hk h hl).mono fun e w' ⟨h1, h2⟩ => ⟨h1, h.new h2, h2.mono fun _ _ h => h.elim⟩
  | some r =>
    rw [show rqAt ks k = rqv k r by unfold rqAt; rw [hl]; rfl, show doneE ks k = 0 by unfold doneE; rw [hl]; rfl]
    exact flDoneYes k r b M most each pat ks w hk h hl

theorem i64_of {k : Int} (h1 : -1000000000000 ≤ k) (h2 : k ≤ 1000000000000) : I64 k := by
  show (Lit.int .i64 k).wf = true
  simp [Lit.wf, IntKind.min, IntKind.max, IntKind.signed, IntKind.bits]; omega
end Go.Proofs.YtjmfhcliggjdgaaDoor.Fl

/- Plain facts on sets of bits: a function that tells of each place whether it is a one, and the words and bytes that it makes; no condition. -/
namespace Go.Proofs.YtjmfhcliggjdgaaDoor
open Go Go.RowKit

/-- The number whose first n binary places are those of f. -/
def pk (f : Nat → Bool) : Nat → Nat
  | 0 => 0
  | n + 1 => pk f n ||| (if f n then 2 ^ n else 0)
theorem testBit_pk (f : Nat → Bool) (n i : Nat) : (pk f n).testBit i = (decide (i < n) && f i) := by
  induction n with
  | zero => simp [pk]
  | succ n ih =>
    rw [pk, Nat.testBit_or, ih]
    by_cases hf : f n = true
    · rw [if_pos hf, Nat.testBit_two_pow]
      by_cases hi : i = n
      · subst hi; simp [hf]
      · have : (decide (n = i)) = false := by simp; omega
        rw [this, Bool.or_false]
        congr 1
        simp; omega
    · rw [if_neg hf, Nat.zero_testBit, Bool.or_false]
      by_cases hi : i = n
      · subst hi; simp at hf; simp [hf]
      · congr 1
        simp; omega
theorem pk_lt (f : Nat → Bool) (n : Nat) : pk f n < 2 ^ n := by
  apply Nat.lt_pow_two_of_testBit
  intro i hi
  rw [testBit_pk]
  have : ¬ i < n := by omega
  simp [this]
theorem pk_ext {f g : Nat → Bool} {n : Nat} (h : ∀ i, i < n → f i = g i) : pk f n = pk g n := by
  apply Nat.eq_of_testBit_eq
  intro i
  rw [testBit_pk, testBit_pk]
  by_cases hi : i < n
  · rw [h i hi]
  · simp [hi]
theorem pk_inj {f g : Nat → Bool} {n : Nat} (h : pk f n = pk g n) : ∀ i, i < n → f i = g i := by
  intro i hi
  have := congrArg (·.testBit i) h
  simp only [testBit_pk, hi, decide_true, Bool.true_and] at this
  exact this
theorem pk_false (n : Nat) : pk (fun _ => false) n = 0 := by
  induction n with
  | zero => rfl
  | succ n ih => rw [pk, ih]; simp
/-- The word, the byte at a place. -/
def wd (f : Nat → Bool) (k : Nat) : Nat := pk (fun j => f (64 * k + j)) 64
def byt (f : Nat → Bool) (k : Nat) : Nat := pk (fun j => f (8 * k + j)) 8
theorem wd_lt (f : Nat → Bool) (k : Nat) : wd f k < 18446744073709551616 := pk_lt _ 64
theorem byt_lt (f : Nat → Bool) (k : Nat) : byt f k < 256 := pk_lt _ 8
theorem testBit_wd (f : Nat → Bool) (k i : Nat) : (wd f k).testBit i = (decide (i < 64) && f (64 * k + i)) := testBit_pk _ _ _
theorem testBit_byt (f : Nat → Bool) (k i : Nat) : (byt f k).testBit i = (decide (i < 8) && f (8 * k + i)) := testBit_pk _ _ _
theorem wd_false (k : Nat) : wd (fun _ => false) k = 0 := pk_false 64

/-- All ones of a word. -/
theorem testBit_ones (i : Nat) : (18446744073709551615 : Nat).testBit i = decide (i < 64) := Nat.testBit_two_pow_sub_one (n := 64) (i := i)
theorem bits_andNot_u64_nat (a b : Nat) (ha : a < 18446744073709551616) (hb : b < 18446744073709551616) :
    bits .andNot .u64 (a : Int) (b : Int) = ((a &&& (18446744073709551615 ^^^ b) : Nat) : Int) := by
  have h1 : (BitVec.ofInt 64 (a : Int)).toNat = a := by
    rw [BitVec.ofInt_natCast, BitVec.toNat_ofNat]; exact Nat.mod_eq_of_lt (by omega)
  have h2 : (BitVec.ofInt 64 (b : Int)).toNat = b := by
    rw [BitVec.ofInt_natCast, BitVec.toNat_ofNat]; exact Nat.mod_eq_of_lt (by omega)
  show IntKind.u64.wrap ((BitVec.ofInt 64 (a : Int) &&& ~~~ BitVec.ofInt 64 (b : Int)).toNat : Int) = _
  have h3 : (BitVec.ofInt 64 (a : Int) &&& ~~~ BitVec.ofInt 64 (b : Int)).toNat = a &&& (18446744073709551615 ^^^ b) := by
    rw [BitVec.toNat_and, h1, BitVec.toNat_not, h2]
    congr 1
    apply Nat.eq_of_testBit_eq
    intro i
    rw [show (2 ^ 64 - 1 - b : Nat) = 2 ^ 64 - (b + 1) by omega, Nat.testBit_two_pow_sub_succ (by omega), Nat.testBit_xor, testBit_ones]
    by_cases hi : i < 64
    · simp [hi]
    · have : b.testBit i = false := Nat.testBit_lt_two_pow (Nat.lt_of_lt_of_le (show b < 2 ^ 64 by omega) (Nat.pow_le_pow_right (by omega) (by omega)))
      simp [hi, this]
  rw [h3, IntKind.wrap_u64]
  have : a &&& (18446744073709551615 ^^^ b) < 2 ^ 64 := Nat.and_lt_two_pow _ (Nat.xor_lt_two_pow (by omega) (by omega))
  omega
theorem tb_hi {a n i : Nat} (h : a < 2 ^ n) (hi : n ≤ i) : a.testBit i = false :=
  Nat.testBit_lt_two_pow (Nat.lt_of_lt_of_le h (Nat.pow_le_pow_right (by omega) hi))

/-- Ones from a place of a word to another one. -/
def seg (lo hi : Nat) : Nat := pk (fun i => decide (lo ≤ i) && decide (i < hi)) 64
theorem seg_lt (lo hi : Nat) : seg lo hi < 18446744073709551616 := pk_lt _ 64
theorem seg_eq (lo hi : Nat) (h1 : lo < hi) (h2 : hi ≤ 64) : IntKind.u64.wrap (18446744073709551615 / 2 ^ (64 - (hi - lo)) * 2 ^ lo) = (seg lo hi : Int) := by
  have e : (18446744073709551615 / 2 ^ (64 - (hi - lo)) * 2 ^ lo % 18446744073709551616 : Nat) = seg lo hi := by
    apply Nat.eq_of_testBit_eq
    intro i
    unfold seg
    rw [testBit_pk, show (18446744073709551616 : Nat) = 2 ^ 64 from rfl, Nat.testBit_mod_two_pow, ← Nat.shiftRight_eq_div_pow, ← Nat.shiftLeft_eq, Nat.testBit_shiftLeft, Nat.testBit_shiftRight, testBit_ones]
    by_cases a : i < 64 <;> by_cases b : lo ≤ i <;> by_cases c : i < hi <;> simp [a, b, c] <;> omega
  rw [IntKind.wrap_u64, ← e]
  simp
theorem seg_at (q k r e x : Nat) (hk : k = 64 * q + r) (h2 : k < e) (h3 : e ≤ 64 * q + 64) (hx : x = 64 - (e - k)) : IntKind.u64.wrap (18446744073709551615 / 2 ^ x * 2 ^ r) = (seg r (e - 64 * q) : Int) := by
  rw [← seg_eq r (e - 64 * q) (by omega) (by omega), hx, show e - k = e - 64 * q - r by omega]

/-- Filling from a place to another one. -/
def fil (f : Nat → Bool) (i j : Nat) (one : Bool) : Nat → Bool := fun x => if i ≤ x ∧ x < j then one else f x
theorem fil_self (f : Nat → Bool) (i : Nat) (one : Bool) : fil f i i one = f := by
  funext x
  unfold fil
  rw [if_neg (by omega)]
theorem fil_fil (f : Nat → Bool) (i k e : Nat) (one : Bool) (h1 : i ≤ k) (h2 : k ≤ e) : fil (fil f i k one) k e one = fil f i e one := by
  funext x
  unfold fil
  by_cases a : k ≤ x ∧ x < e
  · rw [if_pos a, if_pos (by omega)]
  · rw [if_neg a]
    by_cases b : i ≤ x ∧ x < k
    · rw [if_pos b, if_pos (by omega)]
    · rw [if_neg b, if_neg (by omega)]
theorem wd_fil_out (f : Nat → Bool) (q lo hi k : Nat) (one : Bool) (hk : k ≠ q) (hh : hi ≤ 64) : wd (fil f (64 * q + lo) (64 * q + hi) one) k = wd f k := by
  apply pk_ext
  intro i hi2
  show (if _ then _ else _) = _
  rw [if_neg (by omega)]
theorem wd_fil_or (f : Nat → Bool) (q lo hi : Nat) : bits .or .u64 (wd f q : Int) (seg lo hi : Int) = (wd (fil f (64 * q + lo) (64 * q + hi) true) q : Int) := by
  rw [bits_or_u64_nat _ _ (wd_lt _ _) (seg_lt _ _)]
  congr 1
  apply Nat.eq_of_testBit_eq
  intro i
  rw [Nat.testBit_or, testBit_wd, testBit_wd, seg, testBit_pk]
  unfold fil
  by_cases a : i < 64
  · by_cases b : 64 * q + lo ≤ 64 * q + i ∧ 64 * q + i < 64 * q + hi
    · rw [if_pos b]; have b1 : lo ≤ i := by omega
      have b2 : i < hi := by omega
      simp [a, b1, b2]
    · rw [if_neg b]
      by_cases c : lo ≤ i
      · have : ¬ i < hi := by omega
        simp [this]
      · simp [c]
  · simp [a]
theorem wd_fil_not (f : Nat → Bool) (q lo hi : Nat) : bits .andNot .u64 (wd f q : Int) (seg lo hi : Int) = (wd (fil f (64 * q + lo) (64 * q + hi) false) q : Int) := by
  rw [bits_andNot_u64_nat _ _ (wd_lt _ _) (seg_lt _ _)]
  congr 1
  apply Nat.eq_of_testBit_eq
  intro i
  rw [Nat.testBit_and, Nat.testBit_xor, testBit_ones, testBit_wd, testBit_wd, seg, testBit_pk]
  unfold fil
  by_cases a : i < 64
  · by_cases b : 64 * q + lo ≤ 64 * q + i ∧ 64 * q + i < 64 * q + hi
    · rw [if_pos b]; have b1 : lo ≤ i := by omega
      have b2 : i < hi := by omega
      simp [a, b1, b2]
    · rw [if_neg b]
      by_cases c : lo ≤ i
      · have : ¬ i < hi := by omega
        simp [a, this]
      · simp [a, c]
  · simp [a]

/-- The places of so many bytes. -/
def ofB (bs : List Nat) (i : Nat) : Nat → Bool := fun x => decide (x < 8 * i) && (bs.getD (x / 8) 0).testBit (x % 8)
theorem ofB_zero (bs : List Nat) : ofB bs 0 = fun _ => false := by
  funext x
  simp [ofB]
theorem wd_ofB_out (bs : List Nat) (i k : Nat) (hk : k ≠ i / 8) : wd (ofB bs (i + 1)) k = wd (ofB bs i) k := by
  apply pk_ext
  intro j hj
  unfold ofB
  congr 1
  simp; omega
theorem wd_ofB_in (bs : List Nat) (i : Nat) (hb : bs.getD i 0 < 256) : bits .or .u64 (wd (ofB bs i) (i / 8) : Int) (IntKind.u64.wrap (((bs.getD i 0 : Nat) : Int) * 2 ^ (8 * (i % 8)))) = (wd (ofB bs (i + 1)) (i / 8) : Int) := by
  have e1 : bs.getD i 0 * 2 ^ (8 * (i % 8)) < 2 ^ 64 := by
    have h1 : (2 : Nat) ^ (8 * (i % 8)) ≤ 2 ^ 56 := Nat.pow_le_pow_right (by omega) (by omega)
    have h2 := Nat.mul_le_mul (show bs.getD i 0 ≤ 255 by omega) h1
    omega
  have e2 : IntKind.u64.wrap (((bs.getD i 0 : Nat) : Int) * 2 ^ (8 * (i % 8))) = ((bs.getD i 0 * 2 ^ (8 * (i % 8)) : Nat) : Int) := by
    rw [IntKind.wrap_u64]
    have : ((bs.getD i 0 : Nat) : Int) * 2 ^ (8 * (i % 8)) = ((bs.getD i 0 * 2 ^ (8 * (i % 8)) : Nat) : Int) := by simp
    rw [this]
    omega
  rw [e2, bits_or_u64_nat _ _ (wd_lt _ _) e1]
  congr 1
  apply Nat.eq_of_testBit_eq
  intro j
  rw [Nat.testBit_or, testBit_wd, testBit_wd, ← Nat.shiftLeft_eq, Nat.testBit_shiftLeft]
  unfold ofB
  by_cases a : j < 64
  · by_cases b : 64 * (i / 8) + j < 8 * i
    · have c : 64 * (i / 8) + j < 8 * (i + 1) := by omega
      have d : ¬ (8 * (i % 8) ≤ j) := by omega
      simp [a, b, c, d]
    · by_cases c : 64 * (i / 8) + j < 8 * (i + 1)
      · have d : 8 * (i % 8) ≤ j := by omega
        have e3 : (64 * (i / 8) + j) / 8 = i := by omega
        have e4 : (64 * (i / 8) + j) % 8 = j - 8 * (i % 8) := by omega
        rw [e3, e4]
        simp [a, b, c, d]
      · have d : 8 ≤ j - 8 * (i % 8) := by omega
        have : (bs.getD i 0).testBit (j - 8 * (i % 8)) = false := tb_hi (n := 8) (by omega) d
        rw [this]
        simp [b, c]
  · have : (bs.getD i 0).testBit (j - 8 * (i % 8)) = false := tb_hi (n := 8) (by omega) (by omega)
    rw [this]
    simp [a]

/-- Ones where the last word has bits. -/
def msk (n : Nat) : Nat := 18446744073709551615 / 2 ^ ((64 - n % 64) % 64)
theorem testBit_msk (n i : Nat) : (msk n).testBit i = decide (i + (64 - n % 64) % 64 < 64) := by
  unfold msk
  rw [← Nat.shiftRight_eq_div_pow, Nat.testBit_shiftRight, testBit_ones, Nat.add_comm]
theorem msk_lt (n : Nat) : msk n < 18446744073709551616 := Nat.lt_of_le_of_lt (Nat.div_le_self _ _) (by decide)
theorem msk_eq (n : Nat) : (18446744073709551615 : Int) / 2 ^ (-((n : Int) % 64) % 64).toNat = (msk n : Int) := by
  have : (-((n : Int) % 64) % 64).toNat = (64 - n % 64) % 64 := by omega
  rw [this]
  unfold msk
  simp
/-- No ones behind the last place, in the last word. -/
theorem msk_none (f : Nat → Bool) (n L : Nat) (hL : 64 * L < n) (hL2 : n ≤ 64 * L + 64) :
    bits .andNot .u64 (wd f L : Int) (msk n : Int) = 0 ↔ ∀ x, n ≤ x → x < 64 * L + 64 → f x = false := by
  rw [bits_andNot_u64_nat _ _ (wd_lt _ _) (msk_lt _)]
  constructor
  · intro h x h1 h2
    have h0 : wd f L &&& (18446744073709551615 ^^^ msk n) = 0 := by omega
    have := congrArg (·.testBit (x - 64 * L)) h0
    simp only [Nat.testBit_and, Nat.testBit_xor, testBit_ones, testBit_msk, testBit_wd, Nat.zero_testBit] at this
    have a : x - 64 * L < 64 := by omega
    have b : ¬ (x - 64 * L + (64 - n % 64) % 64 < 64) := by omega
    have c : 64 * L + (x - 64 * L) = x := by omega
    simpa [a, b, c] using this
  · intro h
    have : wd f L &&& (18446744073709551615 ^^^ msk n) = 0 := by
      apply Nat.eq_of_testBit_eq
      intro i
      rw [Nat.testBit_and, Nat.testBit_xor, testBit_ones, testBit_msk, testBit_wd, Nat.zero_testBit]
      by_cases a : i < 64
      · by_cases b : i + (64 - n % 64) % 64 < 64
        · simp [a, b]
        · rw [h (64 * L + i) (by omega) (by omega)]; simp
      · simp [a]
    omega
/-- A byte of a word. -/
theorem byt_eq (f : Nat → Bool) (i : Nat) : IntKind.u8.wrap ((wd f (i / 8) : Int) / 2 ^ (8 * (i % 8))) = (byt f i : Int) := by
  have e : (wd f (i / 8) / 2 ^ (8 * (i % 8)) % 256 : Nat) = byt f i := by
    apply Nat.eq_of_testBit_eq
    intro j
    rw [show (256 : Nat) = 2 ^ 8 from rfl, Nat.testBit_mod_two_pow, ← Nat.shiftRight_eq_div_pow, Nat.testBit_shiftRight, testBit_wd, testBit_byt]
    by_cases a : j < 8
    · have b : 8 * (i % 8) + j < 64 := by omega
      have c : 64 * (i / 8) + (8 * (i % 8) + j) = 8 * i + j := by omega
      simp [a, b, c]
    · simp [a]
  rw [← e]
  simp [IntKind.wrap, IntKind.bits, IntKind.signed]
theorem byt_ofB (bs : List Nat) (n i : Nat) (hi : i < n) (hb : bs.getD i 0 < 256) : byt (ofB bs n) i = bs.getD i 0 := by
  apply Nat.eq_of_testBit_eq
  intro j
  rw [testBit_byt]
  unfold ofB
  by_cases a : j < 8
  · have b : 8 * i + j < 8 * n := by omega
    have c : (8 * i + j) / 8 = i := by omega
    have d : (8 * i + j) % 8 = j := by omega
    simp [a, b, c, d]
  · rw [tb_hi (a := bs.getD i 0) (n := 8) (by omega) (by omega)]
    simp [a]
end Go.Proofs.YtjmfhcliggjdgaaDoor

/- What package bits does, as contracts over what a set's places are: New, Fill, Put, mask; no condition. -/
namespace Go.Proofs.YtjmfhcliggjdgaaDoor
open Go Go.RowKit

/-- A set's cells at block b, its words at block g: n places, of which those of f are ones. -/
structure BRaw (w : World) (b g n : Nat) (f : Nat → Bool) : Prop where
  head : ∃ c, Blk w b #[.int .i64 n, .slice (some ⟨g, 0, none⟩) ((n + 63) / 64) c] 72
  ne : g ≠ b
  words : ∃ cs : Array Value, Blk w g cs 37 ∧ ∀ k, k < (n + 63) / 64 → cs[k]? = some (.int .u64 (wd f k))
  small : n ≤ 65536
/-- .. with no ones behind the last place. -/
structure BSet (w : World) (b g n : Nat) (f : Nat → Bool) : Prop extends BRaw w b g n f where
  out : ∀ i, n ≤ i → f i = false
theorem BRaw.lt {w : World} {b g n : Nat} {f : Nat → Bool} (h : BRaw w b g n f) : b < w.heap.size ∧ g < w.heap.size := by
  obtain ⟨c, hc⟩ := h.head
  obtain ⟨cs, hcs, _⟩ := h.words
  exact ⟨hc.lt, hcs.lt⟩
theorem BRaw.mod {S : Nat → Prop} {w w' : World} {b g n : Nat} {f : Nat → Bool} (h : BRaw w b g n f) (hm : Mod S w w') (hb : ¬ S b) (hg : ¬ S g) : BRaw w' b g n f := by
  obtain ⟨c, hc⟩ := h.head
  obtain ⟨cs, hcs, hk⟩ := h.words
  exact ⟨⟨c, hc.mod hm hb⟩, h.ne, ⟨cs, hcs.mod hm hg, hk⟩, h.small⟩
theorem BSet.mod {S : Nat → Prop} {w w' : World} {b g n : Nat} {f : Nat → Bool} (h : BSet w b g n f) (hm : Mod S w w') (hb : ¬ S b) (hg : ¬ S g) : BSet w' b g n f := ⟨h.toBRaw.mod hm hb hg, h.out⟩
theorem BRaw.drewN {w : World} {b g n : Nat} {f : Nat → Bool} (h : BRaw w b g n f) (k : Nat) : BRaw (w.drewN k) b g n f := ⟨h.head, h.ne, h.words, h.small⟩
theorem BSet.drewN {w : World} {b g n : Nat} {f : Nat → Bool} (h : BSet w b g n f) (k : Nat) : BSet (w.drewN k) b g n f := ⟨h.toBRaw.drewN k, h.out⟩
theorem BSet.alloc {w : World} {b g n : Nat} {f : Nat → Bool} (h : BSet w b g n f) (o : Obj) : BSet (w.alloc o) b g n f :=
  h.mod (S := fun _ => False) ((Mod.refl _ _).alloc o) (fun h => h) (fun h => h)
theorem BRaw.put {w : World} {b g n : Nat} {f : Nat → Bool} (h : BRaw w b g n f) (q : Nat) (v : Value) (f' : Nat → Bool) (hv : v = .int .u64 (wd f' q)) (hne : ∀ k, k ≠ q → wd f' k = wd f k) :
    BRaw (w.setCell ⟨g, q, none⟩ v) b g n f' := by
  obtain ⟨c, hc⟩ := h.head
  obtain ⟨cs, hcs, hk⟩ := h.words
  refine ⟨⟨c, hc.setOther h.ne _⟩, h.ne, ⟨_, hcs.set q v, fun k hlt => ?_⟩, h.small⟩
  have h0 := hk k hlt
  have h1 := (Array.getElem?_eq_some_iff.1 h0).1
  by_cases e : k = q
  · subst e
    rw [Array.getElem?_setIfInBounds_self_of_lt h1, hv]
  · rw [Array.getElem?_setIfInBounds_ne (Ne.symm e), h0, hne k e]
theorem BSet.put {w : World} {b g n : Nat} {f : Nat → Bool} (h : BSet w b g n f) (q : Nat) (v : Value) (f' : Nat → Bool) (hv : v = .int .u64 (wd f' q)) (hne : ∀ k, k ≠ q → wd f' k = wd f k) (hout : ∀ i, n ≤ i → f' i = false) :
    BSet (w.setCell ⟨g, q, none⟩ v) b g n f' := ⟨h.toBRaw.put q v f' hv hne, hout⟩
theorem BRaw.n0 {w : World} {b g n : Nat} {f : Nat → Bool} (h : BRaw w b g n f) : w.cell? ⟨b, 0, none⟩ = some (.int .i64 n) := by
  obtain ⟨c, hc⟩ := h.head
  rw [hc.cell]; rfl
theorem BRaw.s1 {w : World} {b g n : Nat} {f : Nat → Bool} (h : BRaw w b g n f) : ∃ c, w.cell? ⟨b, 1, none⟩ = some (.slice (some ⟨g, 0, none⟩) ((n + 63) / 64) c) := by
  obtain ⟨c, hc⟩ := h.head
  exact ⟨c, by rw [hc.cell]; rfl⟩
theorem BRaw.word {w : World} {b g n : Nat} {f : Nat → Bool} (h : BRaw w b g n f) {k : Nat} (hk : k < (n + 63) / 64) : w.cell? ⟨g, k, none⟩ = some (.int .u64 (wd f k)) ∧ w.frozen? ⟨g, k, none⟩ = false := by
  obtain ⟨cs, hcs, h1⟩ := h.words
  exact ⟨by rw [hcs.cell]; exact h1 k hk, hcs.frozen k⟩
/-- A list of bytes, as a slice holds them. -/
abbrev byts (bs : List Nat) : List Value := bs.map fun (z : Nat) => .int .u8 (z : Int)
theorem Sl.byt {w : World} {v : Value} {n : Nat} {bs : List Nat} (h : Sl w v 1 n (byts bs)) (k : Nat) (hk : k < n) : ∃ x c, v = .slice (some x) n c ∧ w.cell? (x.add k) = some (.int .u8 (bs.getD k 0 : Nat)) := by
  rcases h with ⟨_, h2, _⟩ | ⟨x, c, rfl, h2, h3⟩
  · omega
  · have hl : bs.length = n := by simpa using h2
    exact ⟨x, c, rfl, h3 k _ (by rw [List.getElem?_map, List.getElem?_eq_getElem (by omega), List.getD_eq_getElem?_getD, List.getElem?_eq_getElem (by omega)]; rfl)⟩

theorem made_get (z : Array Value) (m k : Nat) (hz : z.size = 1) (hk : k < m) : (madeCells z m)[k]? = z[0]? := by
  unfold madeCells
  simp [hz, hk, Nat.mod_one]

theorem infoU64 : (Tryd.prog.info? 37).map (fun i => (i.zero, i.size, i.bytes)) = some (some (.int .u64 0), 1, 8) := by kernel_rfl
set_option maxHeartbeats 400000 in
theorem bitsNewBad (n : Int) (w : World) (h : n < 0 ∨ 65536 < n) :
    Calls Tryd.prog 15 #[.int .i64 n] w fun e w' => e = .returned (.tuple #[.pointer none, .int .i64 1]) ∧ w = w' := by
  go_enter Tryd.func15, Tryd.ntmps15
  rcases h with h | h
  · go_wp2
    go_ret2
    exact ⟨rfl, rfl⟩
  · have h2 : ¬ n < 0 := by omega
    go_wp2
    go_ret2
    exact ⟨rfl, rfl⟩

set_option maxHeartbeats 400000 in
theorem bitsNew (n : Nat) (w : World) (h : n ≤ 65536) :
    Calls Tryd.prog 15 #[.int .i64 n] w fun e w' => e = .returned (.tuple #[.pointer (some ⟨w.heap.size + 1, 0, none⟩), .int .i64 0]) ∧ BSet w' (w.heap.size + 1) w.heap.size n (fun _ => false) ∧ Mod (fun _ => False) w w' := by
  obtain ⟨i0, hi, hz0, hz1, hz2⟩ := info_parts infoU64
  have hmk := run_makeSlice (P := Tryd.prog) w 70 37 i0 (.int .u64 0) Tryd.underlying70 hi hz0 .i64 .i64 (((n : Int) + 64 - 1) / 64) (((n : Int) + 64 - 1) / 64) (by omega) (Int.le_refl _) (by rw [hz1]; omega) (by rw [hz2]; omega) (by omega)
  rw [hz1] at hmk
  have hm : (((n : Int) + 64 - 1) / 64).toNat = (n + 63) / 64 := by omega
  rw [hm] at hmk
  have h1 : ¬ (n : Int) < 0 := by omega
  have h2 : ¬ (65536 : Int) < n := by omega
  clear hi hz0 hz1 hz2 hm
  go_enter Tryd.func15, Tryd.ntmps15
  go_wp2_with fail
  go_ret2
  refine ⟨rfl, ⟨⟨⟨_, by have := Blk.new (w.alloc (.cells (madeCells #[Value.int .u64 0] ((n + 63) / 64)) 37)) #[.int .i64 n, .slice (some ⟨w.heap.size, 0, none⟩) ((n + 63) / 64) ((n + 63) / 64)] 72; simpa using this⟩, by omega, ⟨_, (Blk.new w _ _).alloc _, fun k hk => ?_⟩, h⟩, fun _ _ => rfl⟩, ((Mod.refl _ w).alloc _).alloc _⟩
  rw [made_get _ _ _ rfl hk, wd_false]
  rfl

set_option maxHeartbeats 400000 in
theorem bitsFillBad (b g n : Nat) (f : Nat → Bool) (i j : Int) (one : Bool) (w : World) (h : BSet w b g n f) (hbad : i < 0 ∨ j < i ∨ n < j) :
    Calls Tryd.prog 33 #[.pointer (some ⟨b, 0, none⟩), .int .i64 i, .int .i64 j, .bool one] w fun e w' => e = .returned (.int .i64 1) ∧ w = w' := by
  have c0 := h.n0
  clear h
  go_enter Tryd.func33, Tryd.ntmps33
  by_cases h1 : i < 0
  · go_wp2
    go_ret
    exact ⟨rfl, rfl⟩
  · by_cases h2 : j < i
    · go_wp2
      go_ret
      exact ⟨rfl, rfl⟩
    · have h3 : (n : Int) < j := by omega
      go_wp2
      go_ret
      exact ⟨rfl, rfl⟩

set_option maxHeartbeats 1000000 in
theorem bitsFill (b g n : Nat) (f : Nat → Bool) (i j : Nat) (one : Bool) (w : World) (h : BSet w b g n f) (h1 : i ≤ j) (h2 : j ≤ n) :
    Calls Tryd.prog 33 #[.pointer (some ⟨b, 0, none⟩), .int .i64 i, .int .i64 j, .bool one] w fun e w' => e = .returned (.int .i64 0) ∧ BSet w' b g n (fil f i j one) ∧ Mod (· = g) w w' := by
  have c0 := h.n0
  have hn := h.small
  have h3 : ¬ (i : Int) < 0 := by omega
  have h4 : ¬ (j : Int) < i := by omega
  have h5 : ¬ (n : Int) < j := by omega
  have H := Lib.hid h
  clear h
  go_enter Tryd.func33, Tryd.ntmps33
  go_wp2_with fail
  go_loopw [1] (fun v wr => ∃ k : Nat, v = .int .i64 k ∧ i ≤ k ∧ k ≤ j ∧ Hid (BSet wr b g n (fil f i k one)) ∧ Mod (· = g) w wr) (fun v _ => j - (intOf v).toNat)
  case atStart => exact ⟨i, rfl, Nat.le_refl _, h1, by rw [fil_self]; exact H, Mod.refl _ _⟩
  case round =>
    obtain ⟨k, rfl, hik, hkj, hs, hm⟩ := hrel
    by_cases hl : (k : Int) < j
    · obtain ⟨q, r, hq, hr64⟩ : ∃ q r : Nat, k = 64 * q + r ∧ r < 64 := ⟨k / 64, k % 64, by omega, by omega⟩
      obtain ⟨m, hmm⟩ : ∃ m, m = (n + 63) / 64 := ⟨_, rfl⟩
      have hqm : q < (n + 63) / 64 := by omega
      obtain ⟨d1, d2⟩ := hs.out.word hqm
      have d0 := hs.out.n0
      obtain ⟨c, d3⟩ := hs.out.s1
      rw [← hmm] at d3
      have hqq : (k : Int) / 64 = q := by omega
      have hrr : k % 64 = r := by omega
      have hqm2 : q < m := by omega
      have hhs : Hid (∀ e v, k ≤ e → e ≤ j → e ≤ 64 * q + 64 → v = (bits (if one then .or else .andNot) .u64 (wd (fil f i k one) q : Int) (seg r (e - 64 * q) : Int)) → BSet (wr.setCell ⟨g, q, none⟩ (.int .u64 v)) b g n (fil f i e one)) := by
        intro e v he1 he2 he3 hv
        have hsg : fil f i e one = fil (fil f i k one) (64 * q + r) (64 * q + (e - 64 * q)) one := by
          rw [← hq, show 64 * q + (e - 64 * q) = e by omega, fil_fil _ _ _ _ _ hik he1]
        rw [hsg]
        refine hs.out.put q _ _ ?_ (fun x hx => wd_fil_out _ _ _ _ _ _ hx (by omega)) (fun x hx => ?_)
        · rw [hv]
          cases one
          · rw [← wd_fil_not]; rfl
          · rw [← wd_fil_or]; rfl
        · rw [← hsg]
          unfold fil
          rw [if_neg (by omega)]
          have := hs.out.out x hx
          unfold fil at this
          rw [if_neg (by omega)] at this
          exact this
      have hb1 : 64 - (64 * q + 64 - k) < 64 := by omega
      generalize hW : wd (fil f i k one) q = W at d1 hhs
      have HQ := Lib.hid hq
      clear hmm hW hq hqm hb1
      have he : ((q : Int) + 1) * 64 < j ∨ ¬ (((q : Int) + 1) * 64 < j) := Classical.em _
      cases one
      · rcases he with he | he
        · go_wp2_with fail
          refine ⟨⟨64 * q + 64, by congr 1; omega, by omega, by omega, ?_, hm.setCell (.inl rfl) _⟩, by simp [intOf]; omega⟩
          exact hhs.out (64 * q + 64) _ (by omega) (by omega) (by omega) (congrArg (bits .andNot .u64 _) (seg_at q k r _ _ HQ.out (by omega) (by omega) (by omega)))
        · go_wp2_with fail
          refine ⟨⟨j, by first | rfl | (congr 1; omega), h1, Nat.le_refl _, ?_, hm.setCell (.inl rfl) _⟩, by simp [intOf]; omega⟩
          exact hhs.out j _ (by omega) (by omega) (by omega) (congrArg (bits .andNot .u64 _) (seg_at q k r _ _ HQ.out (by omega) (by omega) (by omega)))
      · rcases he with he | he
        · go_wp2_with fail
          refine ⟨⟨64 * q + 64, by congr 1; omega, by omega, by omega, ?_, hm.setCell (.inl rfl) _⟩, by simp [intOf]; omega⟩
          exact hhs.out (64 * q + 64) _ (by omega) (by omega) (by omega) (congrArg (bits .or .u64 _) (seg_at q k r _ _ HQ.out (by omega) (by omega) (by omega)))
        · go_wp2_with fail
          refine ⟨⟨j, by first | rfl | (congr 1; omega), h1, Nat.le_refl _, ?_, hm.setCell (.inl rfl) _⟩, by simp [intOf]; omega⟩
          exact hhs.out j _ (by omega) (by omega) (by omega) (congrArg (bits .or .u64 _) (seg_at q k r _ _ HQ.out (by omega) (by omega) (by omega)))
    · have hkj2 : k = j := by omega
      subst hkj2
      go_wp2_with fail
      go_ret
      exact ⟨rfl, hs.out, hm⟩

set_option maxHeartbeats 400000 in
theorem bitsPutBad (b g n : Nat) (f : Nat → Bool) (i : Int) (one : Bool) (w : World) (h : BSet w b g n f) (hbad : i < 0 ∨ n ≤ i) :
    Calls Tryd.prog 17 #[.pointer (some ⟨b, 0, none⟩), .int .i64 i, .bool one] w fun e w' => e = .returned (.int .i64 1) ∧ w = w' := by
  have c0 := h.n0
  clear h
  go_enter Tryd.func17, Tryd.ntmps17
  by_cases h1 : i < 0
  · go_wp2
    go_ret
    exact ⟨rfl, rfl⟩
  · have h3 : (n : Int) ≤ i := by omega
    go_wp2
    go_ret
    exact ⟨rfl, rfl⟩

set_option maxHeartbeats 400000 in
theorem bitsPut (b g n : Nat) (f : Nat → Bool) (i : Nat) (one : Bool) (w : World) (h : BSet w b g n f) (hi : i < n) :
    Calls Tryd.prog 17 #[.pointer (some ⟨b, 0, none⟩), .int .i64 i, .bool one] w fun e w' => e = .returned (.int .i64 0) ∧ BSet w' b g n (fil f i (i + 1) one) ∧ Mod (· = g) w w' := by
  have c0 := h.n0
  have hn := h.small
  have H := Lib.hid h
  have h1 : ¬ (i : Int) < 0 := by omega
  have h3 : ¬ (n : Int) ≤ i := by omega
  clear h
  go_enter Tryd.func17, Tryd.ntmps17
  go_wp2_with fail
  refine (bitsFill b g n f i (i + 1) one _ H.out (by omega) (by omega)).mono ?_; rintro e w' ⟨rfl, h1, h2⟩
  go_wp2_with fail
  go_ret
  exact ⟨rfl, h1, h2⟩

set_option maxHeartbeats 400000 in
theorem bitsMask (b g n : Nat) (f : Nat → Bool) (w : World) (h : BRaw w b g n f) :
    Calls Tryd.prog 53 #[.pointer (some ⟨b, 0, none⟩)] w fun e w' => e = .returned (.int .u64 (msk n)) ∧ w = w' := by
  have c0 := h.n0
  clear h
  go_enter Tryd.func53, Tryd.ntmps53
  go_wp2_with fail
  go_ret
  exact ⟨congrArg (fun x => Ending.returned (.int .u64 x)) (msk_eq n), rfl⟩

set_option maxHeartbeats 400000 in
theorem bitsLen (b g n : Nat) (f : Nat → Bool) (w : World) (h : BSet w b g n f) :
    Calls Tryd.prog 34 #[.pointer (some ⟨b, 0, none⟩)] w fun e w' => e = .returned (.int .i64 n) ∧ w = w' := by
  have c0 := h.n0
  clear h
  go_enter Tryd.func34, Tryd.ntmps34
  go_wp2_with fail
  go_ret
  exact ⟨rfl, rfl⟩
end Go.Proofs.YtjmfhcliggjdgaaDoor

/- Load and Bytes of package bits; no condition. -/
namespace Go.Proofs.YtjmfhcliggjdgaaDoor
open Go Go.RowKit




/-- What Bytes tells. -/
def bytesOf (f : Nat → Bool) (n : Nat) : List Nat := (List.range ((n + 7) / 8)).map (byt f)
end Go.Proofs.YtjmfhcliggjdgaaDoor

/- Bytes as a string; Bytes of package bits; no condition. -/
namespace Go.Proofs.YtjmfhcliggjdgaaDoor
open Go Go.RowKit

/-- The string that bytes are. -/
def strOf (bs : List Nat) : ByteArray := ⟨(bs.map UInt8.ofNat).toArray⟩
theorem foldl_push (bs : List Nat) (s : ByteArray) : (bs.map (fun (n : Nat) => (n : Int))).foldl (fun r n => r.push (UInt8.ofNat n.toNat)) s = ⟨s.data ++ (bs.map UInt8.ofNat).toArray⟩ := by
  induction bs generalizing s with
  | nil => simp
  | cons b bs ih =>
    simp only [List.map_cons, List.foldl_cons]
    rw [ih]
    simp [ByteArray.push]
theorem str_conv {P : Program} (w : World) (src dst e : TypeId) (hs : P.underlying src = some (.slice e)) (he : P.underlying e = some (.int .u8)) (hd : P.underlying dst = some .string) (v : Value) (n : Nat) (bs : List Nat) (h : Sl w v 1 n (byts bs)) :
    (convert src dst v).run P w = .ok (.string (strOf bs)) w := by
  rcases h with ⟨rfl, rfl, hb⟩ | ⟨x, c, rfl, hl, hc⟩
  · rw [run_convert_bytes_string w src dst e none 0 0 hs he hd]
    have : bs = [] := by simpa using hb
    subst this
    rfl
  · rw [run_convert_bytes_string w src dst e _ _ _ hs he hd]
    have h1 := run_loadCells_list (P := P) w x (byts bs) hc
    have hn : (byts bs).length = n := by simpa using hl
    rw [hn] at h1
    rw [run_bytesToString w x n c (bs.map (fun (n : Nat) => (n : Int))) (by rw [h1, List.map_map]; rfl), foldl_push]
    simp [strOf]
theorem strOf_inj {a b : List Nat} (ha : ∀ x ∈ a, x < 256) (hb : ∀ x ∈ b, x < 256) (h : strOf a = strOf b) : a = b := by
  have h1 : a.map UInt8.ofNat = b.map UInt8.ofNat := by
    have := congrArg (fun s => s.data.toList) h
    simpa [strOf] using this
  have h2 := congrArg (List.map UInt8.toNat) h1
  rw [List.map_map, List.map_map] at h2
  have key : ∀ l : List Nat, (∀ x ∈ l, x < 256) → l.map (UInt8.toNat ∘ UInt8.ofNat) = l := by
    intro l hl
    conv => rhs; rw [← List.map_id l]
    apply List.map_congr_left
    intro x hx
    have := hl x hx
    simp [UInt8.toNat_ofNat']
    omega
  rwa [key a ha, key b hb] at h2
theorem str_eq {a b : List Nat} (ha : ∀ x ∈ a, x < 256) (hb : ∀ x ∈ b, x < 256) : ((strOf a).toList == (strOf b).toList) = decide (a = b) := by
  rw [ByteArray.toList_eq, ByteArray.toList_eq]
  by_cases h : a = b
  · subst h; simp
  · rw [decide_eq_false h, beq_eq_false_iff_ne]
    intro e
    have h2 : (strOf a).data = (strOf b).data := Array.toList_inj.1 e
    exact h (strOf_inj ha hb (by cases hx : strOf a; cases hy : strOf b; rw [hx, hy] at h2; simp at h2; rw [h2]))
theorem bytesOf_lt (f : Nat → Bool) (n : Nat) : ∀ x ∈ bytesOf f n, x < 256 := by
  intro x hx
  simp only [bytesOf, List.mem_map] at hx
  obtain ⟨k, _, rfl⟩ := hx
  exact byt_lt f k
theorem bytesOf_ofB (bs : List Nat) (n : Nat) (hl : bs.length = (n + 7) / 8) (hb : ∀ x ∈ bs, x < 256) : bytesOf (ofB bs ((n + 7) / 8)) n = bs := by
  apply List.ext_getElem?
  intro k
  rw [bytesOf, List.getElem?_map]
  by_cases hk : k < (n + 7) / 8
  · have hk2 : k < bs.length := by omega
    have e : bs.getD k 0 = bs[k] := by rw [List.getD_eq_getElem?_getD, List.getElem?_eq_getElem hk2]; rfl
    rw [List.getElem?_range hk, List.getElem?_eq_getElem hk2, Option.map_some, byt_ofB bs _ k hk (by rw [e]; exact hb _ (List.getElem_mem hk2)), e]
  · rw [List.getElem?_eq_none (by simpa using hk), List.getElem?_eq_none (by omega)]
    rfl

theorem infoU8 : (Tryd.prog.info? 5).map (fun i => (i.zero, i.size, i.bytes)) = some (some (.int .u8 0), 1, 1) := by kernel_rfl

end Go.Proofs.YtjmfhcliggjdgaaDoor

/- The reference of package bits: New, Bytes, Load; no condition. -/
namespace Go.Proofs.YtjmfhcliggjdgaaDoor
open Go Go.RowKit

/-- A set of the reference at block b, its list at block g. -/
structure RSet (w : World) (b g n : Nat) (f : Nat → Bool) : Prop where
  head : ∃ c, Blk w b #[.slice (some ⟨g, 0, none⟩) n c] 83
  ne : g ≠ b
  list : ∃ cs : Array Value, Blk w g cs 4 ∧ ∀ k, k < n → cs[k]? = some (.bool (f k))
  small : n ≤ 65536
theorem RSet.lt {w : World} {b g n : Nat} {f : Nat → Bool} (h : RSet w b g n f) : b < w.heap.size ∧ g < w.heap.size := by
  obtain ⟨c, hc⟩ := h.head
  obtain ⟨cs, hcs, _⟩ := h.list
  exact ⟨hc.lt, hcs.lt⟩
theorem RSet.mod {S : Nat → Prop} {w w' : World} {b g n : Nat} {f : Nat → Bool} (h : RSet w b g n f) (hm : Mod S w w') (hb : ¬ S b) (hg : ¬ S g) : RSet w' b g n f := by
  obtain ⟨c, hc⟩ := h.head
  obtain ⟨cs, hcs, hk⟩ := h.list
  exact ⟨⟨c, hc.mod hm hb⟩, h.ne, ⟨cs, hcs.mod hm hg, hk⟩, h.small⟩
theorem RSet.drewN {w : World} {b g n : Nat} {f : Nat → Bool} (h : RSet w b g n f) (k : Nat) : RSet (w.drewN k) b g n f := ⟨h.head, h.ne, h.list, h.small⟩
theorem RSet.put {w : World} {b g n : Nat} {f : Nat → Bool} (h : RSet w b g n f) (q : Nat) (v : Value) (f' : Nat → Bool) (hv : v = .bool (f' q)) (hne : ∀ k, k ≠ q → f' k = f k) :
    RSet (w.setCell ⟨g, q, none⟩ v) b g n f' := by
  obtain ⟨c, hc⟩ := h.head
  obtain ⟨cs, hcs, hk⟩ := h.list
  refine ⟨⟨c, hc.setOther h.ne _⟩, h.ne, ⟨_, hcs.set q v, fun k hlt => ?_⟩, h.small⟩
  have h0 := hk k hlt
  have h1 := (Array.getElem?_eq_some_iff.1 h0).1
  by_cases e : k = q
  · subst e
    rw [Array.getElem?_setIfInBounds_self_of_lt h1, hv]
  · rw [Array.getElem?_setIfInBounds_ne (Ne.symm e), h0, hne k e]
theorem RSet.s0 {w : World} {b g n : Nat} {f : Nat → Bool} (h : RSet w b g n f) : ∃ c, w.cell? ⟨b, 0, none⟩ = some (.slice (some ⟨g, 0, none⟩) n c) := by
  obtain ⟨c, hc⟩ := h.head
  exact ⟨c, by rw [hc.cell]; rfl⟩
theorem RSet.at {w : World} {b g n : Nat} {f : Nat → Bool} (h : RSet w b g n f) {k : Nat} (hk : k < n) : w.cell? ⟨g, k, none⟩ = some (.bool (f k)) ∧ w.frozen? ⟨g, k, none⟩ = false := by
  obtain ⟨cs, hcs, h1⟩ := h.list
  exact ⟨by rw [hcs.cell]; exact h1 k hk, hcs.frozen k⟩
theorem RSet.ext {w : World} {b g n : Nat} {f f' : Nat → Bool} (h : RSet w b g n f) (e : ∀ k, k < n → f' k = f k) : RSet w b g n f' := by
  obtain ⟨cs, hcs, h1⟩ := h.list
  exact ⟨h.head, h.ne, ⟨cs, hcs, fun k hk => by rw [h1 k hk, e k hk]⟩, h.small⟩

theorem infoBool : (Tryd.prog.info? 4).map (fun i => (i.zero, i.size, i.bytes)) = some (some (.bool false), 1, 1) := by kernel_rfl
set_option maxHeartbeats 400000 in
theorem refNewBad (n : Int) (w : World) (h : n < 0 ∨ 65536 < n) :
    Calls Tryd.prog 16 #[.int .i64 n] w fun e w' => e = .returned (.tuple #[.pointer none, .int .i64 1]) ∧ w = w' := by
  go_enter Tryd.func16, Tryd.ntmps16
  rcases h with h | h
  · go_wp2
    go_ret2
    exact ⟨rfl, rfl⟩
  · have h2 : ¬ n < 0 := by omega
    go_wp2
    go_ret2
    exact ⟨rfl, rfl⟩

set_option maxHeartbeats 400000 in
theorem refNew (n : Nat) (w : World) (h : n ≤ 65536) :
    Calls Tryd.prog 16 #[.int .i64 n] w fun e w' => e = .returned (.tuple #[.pointer (some ⟨w.heap.size + 1, 0, none⟩), .int .i64 0]) ∧ RSet w' (w.heap.size + 1) w.heap.size n (fun _ => false) ∧ Mod (fun _ => False) w w' := by
  obtain ⟨i0, hi, hz0, hz1, hz2⟩ := info_parts infoBool
  have hmk := run_makeSlice (P := Tryd.prog) w 81 4 i0 (.bool false) Tryd.underlying81 hi hz0 .i64 .i64 (n : Int) (n : Int) (by omega) (Int.le_refl _) (by rw [hz1]; omega) (by rw [hz2]; omega) (by omega)
  rw [hz1] at hmk
  rw [Int.toNat_natCast] at hmk
  have h1 : ¬ (n : Int) < 0 := by omega
  have h2 : ¬ (65536 : Int) < n := by omega
  clear hi hz0 hz1 hz2
  go_enter Tryd.func16, Tryd.ntmps16
  go_wp2_with fail
  go_ret2
  refine ⟨rfl, ⟨⟨_, by have := Blk.new (w.alloc (.cells (madeCells #[Value.bool false] n) 4)) #[.slice (some ⟨w.heap.size, 0, none⟩) n n] 83; simpa using this⟩, by omega, ⟨_, (Blk.new w _ _).alloc _, fun k hk => ?_⟩, h⟩, ((Mod.refl _ w).alloc _).alloc _⟩
  rw [made_get _ _ _ rfl hk]
  rfl

/-- The first i of the places. -/
def upto (f : Nat → Bool) (i : Nat) : Nat → Bool := fun x => decide (x < i) && f x
theorem byt_upto_zero (f : Nat → Bool) (k : Nat) : byt (upto f 0) k = 0 := by
  have : upto f 0 = fun _ => false := by funext x; simp [upto]
  rw [this]; exact pk_false 8
theorem byt_upto_no (f : Nat → Bool) (i k : Nat) (h : f i = false ∨ k ≠ i / 8) : byt (upto f (i + 1)) k = byt (upto f i) k := by
  apply pk_ext
  intro j hj
  show (decide (8 * k + j < i + 1) && f (8 * k + j)) = (decide (8 * k + j < i) && f (8 * k + j))
  by_cases e : 8 * k + j = i
  · rcases h with h | h
    · rw [e, h]; simp
    · omega
  · congr 1
    simp; omega
theorem byt_upto_yes (f : Nat → Bool) (i : Nat) (h : f i = true) : ((byt (upto f i) (i / 8) : Int) + 2 ^ (i % 8)) % 256 = (byt (upto f (i + 1)) (i / 8) : Int) := by
  have e : byt (upto f (i + 1)) (i / 8) = 2 ^ (i % 8) + byt (upto f i) (i / 8) := by
    have hlt : byt (upto f i) (i / 8) < 2 ^ (i % 8) := by
      apply Nat.lt_pow_two_of_testBit
      intro j hj
      rw [testBit_byt]
      unfold upto
      have : ¬ (8 * (i / 8) + j < i) := by omega
      simp [this]
    apply Nat.eq_of_testBit_eq
    intro j
    rw [testBit_byt]
    rcases Nat.lt_trichotomy j (i % 8) with hj | hj | hj
    · rw [Nat.testBit_two_pow_add_gt hj, testBit_byt]
      congr 1
      unfold upto
      have a : 8 * (i / 8) + j < i := by omega
      have b : 8 * (i / 8) + j < i + 1 := by omega
      simp [a, b]
    · subst hj
      rw [Nat.testBit_two_pow_add_eq, testBit_byt]
      have a : 8 * (i / 8) + i % 8 = i := by omega
      have b : i % 8 < 8 := by omega
      rw [a]
      unfold upto
      simp [h, b]
    · have h2 : 2 ^ (i % 8) + byt (upto f i) (i / 8) < 2 ^ (i % 8 + 1) := by rw [Nat.pow_succ]; omega
      rw [tb_hi (n := i % 8 + 1) h2 (by omega)]
      unfold upto
      have : ¬ (8 * (i / 8) + j < i + 1) := by omega
      simp [this]
  have h3 := byt_lt (upto f (i + 1)) (i / 8)
  have h4 : (2 : Int) ^ (i % 8) = ((2 ^ (i % 8) : Nat) : Int) := by simp
  rw [h4, e]
  rw [e] at h3
  omega
theorem bytesOf_upto (f : Nat → Bool) (n : Nat) (h : ∀ x, n ≤ x → f x = false) : bytesOf (upto f n) n = bytesOf f n := by
  have : upto f n = f := by
    funext x
    unfold upto
    by_cases hx : x < n
    · simp [hx]
    · rw [h x (by omega)]; simp
  rw [this]
end Go.Proofs.YtjmfhcliggjdgaaDoor

/- How many ones a word has, and how math/bits counts them; no condition. -/
namespace Go.Proofs.YtjmfhcliggjdgaaDoor
open Go Go.RowKit

/-- How many of the first n places are ones. -/
def cnt (f : Nat → Bool) : Nat → Nat
  | 0 => 0
  | n + 1 => cnt f n + if f n then 1 else 0
theorem cnt_ext {f g : Nat → Bool} : ∀ {n : Nat}, (∀ i, i < n → f i = g i) → cnt f n = cnt g n
  | 0, _ => rfl
  | n + 1, h => by
    unfold cnt
    rw [cnt_ext (fun i hi => h i (by omega)), h n (by omega)]
theorem cnt_add (f : Nat → Bool) (m : Nat) : ∀ n, cnt f (m + n) = cnt f m + cnt (fun i => f (m + i)) n
  | 0 => rfl
  | n + 1 => by
    show cnt f (m + n) + _ = _
    rw [cnt_add f m n]
    show cnt f m + cnt (fun i => f (m + i)) n + (if f (m + n) then 1 else 0) = cnt f m + (cnt (fun i => f (m + i)) n + (if f (m + n) then 1 else 0))
    omega
theorem cnt_le (f : Nat → Bool) : ∀ n, cnt f n ≤ n
  | 0 => Nat.le_refl _
  | n + 1 => by
    unfold cnt
    have := cnt_le f n
    split <;> omega
theorem cnt_false : ∀ n, cnt (fun _ => false) n = 0
  | 0 => rfl
  | n + 1 => by unfold cnt; rw [cnt_false n]; rfl
/-- Behind the last one nothing is counted. -/
theorem cnt_out {f : Nat → Bool} {n : Nat} (h : ∀ i, n ≤ i → f i = false) : ∀ m, n ≤ m → cnt f m = cnt f n
  | 0, hm => by have : n = 0 := by omega
                rw [this]
  | m + 1, hm => by
    by_cases e : n = m + 1
    · rw [e]
    · show cnt f m + (if f m then 1 else 0) = _
      rw [cnt_out h m (by omega), h m (by omega)]
      simp

/-- A number of digits to the base 256. -/
def vB : List Nat → Nat
  | [] => 0
  | b :: t => b + 256 * vB t
/-- One byte, so many times. -/
def rB (m : Nat) : Nat → Nat
  | 0 => 0
  | n + 1 => m + 256 * rB m n
theorem and_digit {b m : Nat} (q r : Nat) (hb : b < 256) (hm : m < 256) : (b + 256 * q) &&& (m + 256 * r) = (b &&& m) + 256 * (q &&& r) := by
  apply Nat.eq_of_testBit_eq
  intro i
  have hbm : b &&& m < 2 ^ 8 := Nat.and_lt_two_pow _ (by omega)
  rw [Nat.testBit_and, Nat.add_comm b, Nat.add_comm m, Nat.add_comm (b &&& m), show (256 : Nat) = 2 ^ 8 from rfl,
    Nat.testBit_two_pow_mul_add _ (by omega), Nat.testBit_two_pow_mul_add _ (by omega), Nat.testBit_two_pow_mul_add _ hbm]
  split <;> rw [Nat.testBit_and]
theorem and_v (m : Nat) (hm : m < 256) : ∀ l : List Nat, (∀ b ∈ l, b < 256) → vB l &&& rB m l.length = vB (l.map (· &&& m))
  | [], _ => by simp [vB]
  | b :: t, h => by
    show (b + 256 * vB t) &&& (m + 256 * rB m t.length) = _
    rw [and_digit _ _ (h b (by simp)) hm, and_v m hm t (fun x hx => h x (by simp [hx]))]
    rfl
/-- A shift by less than a byte, masked. -/
theorem shr_digit {b m : Nat} (s q r : Nat) (hs : s ≤ 8) (hb : b < 256) (hm : m < 2 ^ (8 - s)) : ((b + 256 * q) / 2 ^ s) &&& (m + 256 * r) = (b / 2 ^ s &&& m) + 256 * (q / 2 ^ s &&& r) := by
  have hm8 : m < 2 ^ 8 := Nat.lt_of_lt_of_le hm (Nat.pow_le_pow_right (by omega) (by omega))
  apply Nat.eq_of_testBit_eq
  intro i
  have hbm : b / 2 ^ s &&& m < 2 ^ 8 := Nat.and_lt_two_pow _ hm8
  rw [Nat.testBit_and, Nat.add_comm b, Nat.add_comm m, Nat.add_comm (b / 2 ^ s &&& m), show (256 : Nat) = 2 ^ 8 from rfl,
    ← Nat.shiftRight_eq_div_pow, Nat.testBit_shiftRight, Nat.testBit_two_pow_mul_add _ (by omega), Nat.testBit_two_pow_mul_add _ hm8, Nat.testBit_two_pow_mul_add _ hbm]
  by_cases h8 : i < 8
  · rw [if_pos h8, if_pos h8]
    by_cases h9 : s + i < 8
    · rw [if_pos h9, Nat.testBit_and, ← Nat.shiftRight_eq_div_pow, Nat.testBit_shiftRight]
    · have : m.testBit i = false := tb_hi hm (by omega)
      rw [Nat.testBit_and, this]; simp
  · rw [if_neg h8, if_neg h8, if_neg (by omega), Nat.testBit_and, ← Nat.shiftRight_eq_div_pow, Nat.testBit_shiftRight]
    congr 2
    omega
theorem shr_v (s m : Nat) (hs : s ≤ 8) (hm : m < 2 ^ (8 - s)) : ∀ l : List Nat, (∀ b ∈ l, b < 256) → (vB l / 2 ^ s) &&& rB m l.length = vB (l.map fun b => b / 2 ^ s &&& m)
  | [], _ => by simp [vB, rB]
  | b :: t, h => by
    show ((b + 256 * vB t) / 2 ^ s) &&& (m + 256 * rB m t.length) = _
    rw [shr_digit _ _ _ hs (h b (by simp)) hm, shr_v s m hs hm t (fun x hx => h x (by simp [hx]))]
    rfl
theorem add_v (f g : Nat → Nat) : ∀ l : List Nat, vB (l.map f) + vB (l.map g) = vB (l.map fun b => f b + g b)
  | [] => rfl
  | b :: t => by
    have := add_v f g t
    simp only [List.map_cons, vB]
    omega
theorem vB_lt : ∀ l : List Nat, (∀ b ∈ l, b < 256) → vB l < 256 ^ l.length
  | [], _ => by simp [vB]
  | b :: t, h => by
    have h1 := vB_lt t (fun x hx => h x (by simp [hx]))
    have h2 := h b (by simp)
    show b + 256 * vB t < 256 ^ (t.length + 1)
    rw [Nat.pow_succ]
    omega
theorem vB_mod16 : ∀ l : List Nat, (∀ b ∈ l, b % 16 ≤ 4) → vB l % 16 ≤ 4
  | [], _ => by simp [vB]
  | b :: t, h => by
    have := h b (by simp)
    show (b + 256 * vB t) % 16 ≤ 4
    omega
theorem half_v : ∀ l : List Nat, (∀ b ∈ l, b % 16 ≤ 4 ∧ b / 16 ≤ 4) → (vB l / 16 + vB l) &&& rB 15 l.length = vB (l.map fun b => b / 16 + b % 16)
  | [], _ => by simp [vB]
  | b :: t, h => by
    have h0 := h b (by simp)
    have h1 := half_v t (fun x hx => h x (by simp [hx]))
    have h2 := vB_mod16 t (fun x hx => (h x (by simp [hx])).1)
    have e : (b + 256 * vB t) / 16 + (b + 256 * vB t) = (b / 16 + b + 16 * (vB t % 16)) + 256 * (vB t / 16 + vB t) := by omega
    show ((b + 256 * vB t) / 16 + (b + 256 * vB t)) &&& (15 + 256 * rB 15 t.length) = _
    rw [e, and_digit _ _ (by omega) (by omega), h1]
    have e2 : (b / 16 + b + 16 * (vB t % 16)) &&& 15 = b / 16 + b % 16 := by
      rw [show (15 : Nat) = 2 ^ 4 - 1 from rfl, Nat.and_two_pow_sub_one_eq_mod]
      omega
    rw [e2]
    rfl

def F1 (b : Nat) : Nat := (b / 2 &&& 85) + (b &&& 85)
def F2 (b : Nat) : Nat := (b / 4 &&& 51) + (b &&& 51)
def F3 (b : Nat) : Nat := b / 16 + b % 16
theorem F_all : ∀ b, b < 256 → F1 b < 256 ∧ F2 (F1 b) < 256 ∧ F2 (F1 b) % 16 ≤ 4 ∧ F2 (F1 b) / 16 ≤ 4 ∧ F3 (F2 (F1 b)) ≤ 8 := by decide +kernel
/-- How many ones a byte has. -/
theorem F_pop (h : Nat → Bool) : F3 (F2 (F1 (pk h 8))) = cnt h 8 := by
  have key : ∀ a0 a1 a2 a3 a4 a5 a6 a7 : Bool, F3 (F2 (F1 ((((((((0 ||| if a0 then 1 else 0) ||| if a1 then 2 else 0) ||| if a2 then 4 else 0) ||| if a3 then 8 else 0) ||| if a4 then 16 else 0) ||| if a5 then 32 else 0) ||| if a6 then 64 else 0) ||| if a7 then 128 else 0)))
      = ((((((((0 + if a0 then 1 else 0) + if a1 then 1 else 0) + if a2 then 1 else 0) + if a3 then 1 else 0) + if a4 then 1 else 0) + if a5 then 1 else 0) + if a6 then 1 else 0) + if a7 then 1 else 0) := by decide +kernel
  exact key (h 0) (h 1) (h 2) (h 3) (h 4) (h 5) (h 6) (h 7)

/-- The bytes of the first places. -/
def bl (h : Nat → Bool) : Nat → List Nat
  | 0 => []
  | m + 1 => pk h 8 :: bl (fun i => h (8 + i)) m
theorem bl_len : ∀ (m : Nat) (h : Nat → Bool), (bl h m).length = m
  | 0, _ => rfl
  | m + 1, h => by simp [bl, bl_len m]
theorem bl_lt : ∀ (m : Nat) (h : Nat → Bool), ∀ b ∈ bl h m, b < 256
  | 0, _, b, hb => by simp [bl] at hb
  | m + 1, h, b, hb => by
    rcases List.mem_cons.1 hb with rfl | hb
    · exact pk_lt h 8
    · exact bl_lt m _ b hb
theorem pk_split (h : Nat → Bool) (n : Nat) : pk h (8 + n) = pk h 8 + 256 * pk (fun i => h (8 + i)) n := by
  apply Nat.eq_of_testBit_eq
  intro i
  rw [Nat.add_comm (pk h 8), show (256 : Nat) = 2 ^ 8 from rfl, Nat.testBit_two_pow_mul_add _ (pk_lt h 8), testBit_pk, testBit_pk, testBit_pk]
  by_cases h8 : i < 8
  · have h9 : i < 8 + n := by omega
    simp [h8, h9]
  · have e : 8 + (i - 8) = i := by omega
    have e2 : (i - 8 < n) = (i < 8 + n) := by simp; omega
    simp [h8, e, e2]
theorem pk_bl : ∀ (m : Nat) (h : Nat → Bool), pk h (8 * m) = vB (bl h m)
  | 0, _ => rfl
  | m + 1, h => by
    rw [show 8 * (m + 1) = 8 + 8 * m by omega, pk_split, pk_bl m]
    rfl
def sumL : List Nat → Nat
  | [] => 0
  | b :: t => b + sumL t
theorem cnt_bl : ∀ (m : Nat) (h : Nat → Bool), sumL ((bl h m).map fun b => F3 (F2 (F1 b))) = cnt h (8 * m)
  | 0, _ => rfl
  | m + 1, h => by
    rw [show 8 * (m + 1) = 8 + 8 * m by omega, cnt_add, ← cnt_bl m, ← F_pop]
    rfl
theorem vB_d1 (a : Nat) (t : List Nat) (ha : a < 256) : vB (a :: t) / 256 = vB t := by
  show (a + 256 * vB t) / 256 = _
  omega
theorem vB_d2 (a b : Nat) (t : List Nat) (ha : a < 256) (hb : b < 256) : vB (a :: b :: t) / 65536 = vB t := by
  show (a + 256 * (b + 256 * vB t)) / 65536 = _
  omega
theorem vB_d4 (a b c d : Nat) (t : List Nat) (ha : a < 256) (hb : b < 256) (hc : c < 256) (hd : d < 256) : vB (a :: b :: c :: d :: t) / 4294967296 = vB t := by
  rw [show (4294967296 : Nat) = 65536 * 65536 from rfl, ← Nat.div_div_eq_div_mul, vB_d2 _ _ _ ha hb, vB_d2 _ _ _ hc hd]
theorem vB_b8 : ∀ l : List Nat, (∀ b ∈ l, b ≤ 127) → vB l ≤ rB 127 l.length
  | [], _ => Nat.le_refl _
  | b :: t, h => by
    have g1 := vB_b8 t (fun x hx => h x (by simp [hx]))
    have g2 := h b (by simp)
    show b + 256 * vB t ≤ 127 + 256 * rB 127 t.length
    omega
theorem vB_b8' (l : List Nat) (hl : l.length = 8) (h : ∀ b ∈ l, b ≤ 127) : vB l < 9223372036854775808 := by
  have := vB_b8 l h
  rw [hl] at this
  exact Nat.lt_of_le_of_lt this (by decide)
/-- The tail of the count: eight small bytes are summed. -/
theorem sum8 (c0 c1 c2 c3 c4 c5 c6 c7 x x4 x5 x6 : Nat) (h0 : c0 ≤ 8) (h1 : c1 ≤ 8) (h2 : c2 ≤ 8) (h3 : c3 ≤ 8) (h4 : c4 ≤ 8) (h5 : c5 ≤ 8) (h6 : c6 ≤ 8) (h7 : c7 ≤ 8)
    (hx : x = vB [c0, c1, c2, c3, c4, c5, c6, c7]) (e4 : x4 = x + x / 256) (e5 : x5 = x4 + x4 / 65536) (e6 : x6 = x5 + x5 / 4294967296) :
    x6 < 9223372036854775808 ∧ x5 < 9223372036854775808 ∧ x4 < 9223372036854775808 ∧ x6 % 128 = c0 + (c1 + (c2 + (c3 + (c4 + (c5 + (c6 + c7)))))) := by
  have q4 : x4 = vB [c0 + c1, c1 + c2, c2 + c3, c3 + c4, c4 + c5, c5 + c6, c6 + c7, c7] := by
    rw [e4, hx, vB_d1 _ _ (by omega)]
    simp only [vB]; omega
  have q5 : x5 = vB [c0 + c1 + (c2 + c3), c1 + c2 + (c3 + c4), c2 + c3 + (c4 + c5), c3 + c4 + (c5 + c6), c4 + c5 + (c6 + c7), c5 + c6 + c7, c6 + c7, c7] := by
    rw [e5, q4, vB_d2 _ _ _ (by omega) (by omega)]
    simp only [vB]; omega
  have q6 : x6 = vB [c0 + c1 + (c2 + c3) + (c4 + c5 + (c6 + c7)), c1 + c2 + (c3 + c4) + (c5 + c6 + c7), c2 + c3 + (c4 + c5) + (c6 + c7), c3 + c4 + (c5 + c6) + c7, c4 + c5 + (c6 + c7), c5 + c6 + c7, c6 + c7, c7] := by
    rw [e6, q5, vB_d4 _ _ _ _ _ (by omega) (by omega) (by omega) (by omega)]
    simp only [vB]; omega
  clear e4 e5 e6 hx
  refine ⟨?_, ?_, ?_, ?_⟩
  · rw [q6]; refine vB_b8' _ rfl ?_; simp only [List.mem_cons, List.not_mem_nil, or_false]; rintro b (h | h | h | h | h | h | h | h) <;> omega
  · rw [q5]; refine vB_b8' _ rfl ?_; simp only [List.mem_cons, List.not_mem_nil, or_false]; rintro b (h | h | h | h | h | h | h | h) <;> omega
  · rw [q4]; refine vB_b8' _ rfl ?_; simp only [List.mem_cons, List.not_mem_nil, or_false]; rintro b (h | h | h | h | h | h | h | h) <;> omega
  · rw [q6]
    have : ∀ (a : Nat) (t : List Nat), a < 128 → vB (a :: t) % 128 = a := by
      intro a t ha
      show (a + 256 * vB t) % 128 = a
      omega
    rw [this _ _ (by omega)]
    omega

theorem and127 (a : Nat) (ha : a < 9223372036854775808) : bits .and .i64 (a : Int) 127 = ((a % 128 : Nat) : Int) := by
  have h1 : (BitVec.ofInt 64 (a : Int)).toNat = a := by
    rw [BitVec.ofInt_natCast, BitVec.toNat_ofNat]; exact Nat.mod_eq_of_lt (by omega)
  have h2 : (BitVec.ofInt 64 127).toNat = 127 := by decide
  show IntKind.i64.wrap ((BitVec.ofInt 64 (a : Int) &&& BitVec.ofInt 64 127).toNat : Int) = _
  rw [BitVec.toNat_and, h1, h2, show (127 : Nat) = 2 ^ 7 - 1 from rfl, Nat.and_two_pow_sub_one_eq_mod, IntKind.wrap_i64]
  omega
/-- WHAT math/bits COUNTS, STEP BY STEP. -/
theorem pop_steps (h : Nat → Bool) : ∃ x1 x2 x3 x4 x5 x6 : Nat,
    IntKind.u64.wrap (bits .and .u64 ((pk h 64 : Nat) / 2 : Int) 6148914691236517205 + bits .and .u64 ((pk h 64 : Nat) : Int) 6148914691236517205) = (x1 : Int) ∧
    IntKind.u64.wrap (bits .and .u64 ((x1 : Int) / 4) 3689348814741910323 + bits .and .u64 (x1 : Int) 3689348814741910323) = (x2 : Int) ∧
    bits .and .u64 (IntKind.u64.wrap ((x2 : Int) / 16 + (x2 : Int))) 1085102592571150095 = (x3 : Int) ∧
    IntKind.u64.wrap ((x3 : Int) + (x3 : Int) / 256) = (x4 : Int) ∧
    IntKind.u64.wrap ((x4 : Int) + (x4 : Int) / 65536) = (x5 : Int) ∧
    IntKind.u64.wrap ((x5 : Int) + (x5 : Int) / 4294967296) = (x6 : Int) ∧
    bits .and .i64 (IntKind.i64.wrap (x6 : Int)) 127 = ((cnt h 64 : Nat) : Int) := by
  obtain ⟨l, hl⟩ : ∃ l, l = bl h 8 := ⟨_, rfl⟩
  have hlen : l.length = 8 := by rw [hl, bl_len]
  have hlt : ∀ b ∈ l, b < 256 := by rw [hl]; exact bl_lt 8 h
  have hpk : pk h 64 = vB l := by rw [hl]; exact pk_bl 8 h
  have hcnt : sumL (l.map fun b => F3 (F2 (F1 b))) = cnt h 64 := by rw [hl]; exact cnt_bl 8 h
  have h256 : (256 : Nat) ^ 8 = 18446744073709551616 := by decide
  have hF : ∀ b ∈ l, F1 b < 256 ∧ F2 (F1 b) < 256 ∧ F2 (F1 b) % 16 ≤ 4 ∧ F2 (F1 b) / 16 ≤ 4 ∧ F3 (F2 (F1 b)) ≤ 8 := fun b hb => F_all b (hlt b hb)
  have r55 : rB 85 8 = 6148914691236517205 := by decide
  have r33 : rB 51 8 = 3689348814741910323 := by decide
  have r0f : rB 15 8 = 1085102592571150095 := by decide
  have hx0 : vB l < 18446744073709551616 := by rw [← h256, ← hlen]; exact vB_lt l hlt
  -- the first step
  have a1 : (vB l / 2) &&& 6148914691236517205 = vB (l.map fun b => b / 2 &&& 85) := by
    have := shr_v 1 85 (by decide) (by decide) l hlt
    rw [hlen, r55] at this
    exact this
  have a2 : vB l &&& 6148914691236517205 = vB (l.map fun b => b &&& 85) := by
    have := and_v 85 (by decide) l hlt
    rw [hlen, r55] at this
    exact this
  have a3 : vB (l.map fun b => b / 2 &&& 85) + vB (l.map fun b => b &&& 85) = vB (l.map F1) := add_v _ _ l
  have l1 : ∀ b ∈ l.map F1, b < 256 := by
    intro b hb
    obtain ⟨c, hc, rfl⟩ := List.mem_map.1 hb
    exact (hF c hc).1
  have hx1 : vB (l.map F1) < 18446744073709551616 := by rw [← h256, ← hlen, ← List.length_map (f := F1)]; exact vB_lt _ l1
  have b1 : (vB (l.map F1) / 4) &&& 3689348814741910323 = vB ((l.map F1).map fun b => b / 4 &&& 51) := by
    have := shr_v 2 51 (by decide) (by decide) _ l1
    rw [List.length_map, hlen, r33] at this
    exact this
  have b2 : vB (l.map F1) &&& 3689348814741910323 = vB ((l.map F1).map fun b => b &&& 51) := by
    have := and_v 51 (by decide) _ l1
    rw [List.length_map, hlen, r33] at this
    exact this
  have b3 : vB ((l.map F1).map fun b => b / 4 &&& 51) + vB ((l.map F1).map fun b => b &&& 51) = vB ((l.map F1).map F2) := add_v _ _ _
  have l2 : ∀ b ∈ (l.map F1).map F2, b < 256 := by
    intro b hb
    obtain ⟨c, hc, rfl⟩ := List.mem_map.1 hb
    obtain ⟨d, hd, rfl⟩ := List.mem_map.1 hc
    exact (hF d hd).2.1
  have l3 : ∀ b ∈ (l.map F1).map F2, b % 16 ≤ 4 ∧ b / 16 ≤ 4 := by
    intro b hb
    obtain ⟨c, hc, rfl⟩ := List.mem_map.1 hb
    obtain ⟨d, hd, rfl⟩ := List.mem_map.1 hc
    exact ⟨(hF d hd).2.2.1, (hF d hd).2.2.2.1⟩
  have hx2 : vB ((l.map F1).map F2) < 18446744073709551616 := by
    have := vB_lt _ l2
    rw [List.length_map, List.length_map, hlen, h256] at this
    exact this
  have c1 : (vB ((l.map F1).map F2) / 16 + vB ((l.map F1).map F2)) &&& 1085102592571150095 = vB (((l.map F1).map F2).map F3) := by
    have := half_v _ l3
    rw [List.length_map, List.length_map, hlen, r0f] at this
    exact this
  have hcc : sumL (((l.map F1).map F2).map F3) = cnt h 64 := by rw [← hcnt, List.map_map, List.map_map]; rfl
  have l4 : ∀ b ∈ ((l.map F1).map F2).map F3, b ≤ 8 := by
    intro b hb
    obtain ⟨c, hc, rfl⟩ := List.mem_map.1 hb
    obtain ⟨d, hd, rfl⟩ := List.mem_map.1 hc
    obtain ⟨e, he, rfl⟩ := List.mem_map.1 hd
    exact (hF e he).2.2.2.2
  have hl4 : (((l.map F1).map F2).map F3).length = 8 := by simp [hlen]
  -- a bound: the sum of the halves does not overflow
  have hh : vB ((l.map F1).map F2) / 16 + vB ((l.map F1).map F2) < 18446744073709551616 := by
    have hm : ∀ l : List Nat, (∀ b ∈ l, b / 16 ≤ 4 ∧ b % 16 ≤ 4) → vB l ≤ rB 68 l.length := by
      intro l
      induction l with
      | nil => intro _; exact Nat.le_refl _
      | cons b t ih =>
        intro hl
        have g1 := ih (fun x hx => hl x (by simp [hx]))
        have g2 := hl b (by simp)
        show b + 256 * vB t ≤ 68 + 256 * rB 68 t.length
        omega
    have g := hm _ (fun b hb => ⟨(l3 b hb).2, (l3 b hb).1⟩)
    rw [List.length_map, List.length_map, hlen] at g
    have r44 : rB 68 8 = 4919131752989213764 := by decide
    omega
  obtain ⟨c, hc⟩ : ∃ c, c = ((l.map F1).map F2).map F3 := ⟨_, rfl⟩
  rw [← hc] at c1 hcc l4 hl4
  have an : ∀ (a m : Nat), a < 18446744073709551616 → m < 18446744073709551616 → bits .and .u64 (a : Int) (m : Int) = ((a &&& m : Nat) : Int) := fun a m ha hm => bits_and_u64_nat a m ha hm
  have wr : ∀ a : Nat, a < 18446744073709551616 → IntKind.u64.wrap (a : Int) = (a : Int) := fun a ha => by rw [IntKind.wrap_u64]; omega
  obtain ⟨c0, k0, rfl⟩ : ∃ c0 k, c = c0 :: k := by cases c with | nil => simp at hl4 | cons a b => exact ⟨a, b, rfl⟩
  obtain ⟨c1', k1, rfl⟩ : ∃ c0 k, k0 = c0 :: k := by cases k0 with | nil => simp at hl4 | cons a b => exact ⟨a, b, rfl⟩
  obtain ⟨c2, k2, rfl⟩ : ∃ c0 k, k1 = c0 :: k := by cases k1 with | nil => simp at hl4 | cons a b => exact ⟨a, b, rfl⟩
  obtain ⟨c3, k3, rfl⟩ : ∃ c0 k, k2 = c0 :: k := by cases k2 with | nil => simp at hl4 | cons a b => exact ⟨a, b, rfl⟩
  obtain ⟨c4, k4, rfl⟩ : ∃ c0 k, k3 = c0 :: k := by cases k3 with | nil => simp at hl4 | cons a b => exact ⟨a, b, rfl⟩
  obtain ⟨c5, k5, rfl⟩ : ∃ c0 k, k4 = c0 :: k := by cases k4 with | nil => simp at hl4 | cons a b => exact ⟨a, b, rfl⟩
  obtain ⟨c6, k6, rfl⟩ : ∃ c0 k, k5 = c0 :: k := by cases k5 with | nil => simp at hl4 | cons a b => exact ⟨a, b, rfl⟩
  obtain ⟨c7, k7, rfl⟩ : ∃ c0 k, k6 = c0 :: k := by cases k6 with | nil => simp at hl4 | cons a b => exact ⟨a, b, rfl⟩
  obtain rfl : k7 = [] := by cases k7 with | nil => rfl | cons a b => simp at hl4
  have hl4' : ∀ b, b = c0 ∨ b = c1' ∨ b = c2 ∨ b = c3 ∨ b = c4 ∨ b = c5 ∨ b = c6 ∨ b = c7 → b ≤ 8 := fun b hb => l4 b (by simpa using hb)
  obtain ⟨x3, hx3⟩ : ∃ x3, x3 = vB [c0, c1', c2, c3, c4, c5, c6, c7] := ⟨_, rfl⟩
  obtain ⟨s6, s5, s4, s7⟩ := sum8 c0 c1' c2 c3 c4 c5 c6 c7 x3 _ _ _ (hl4' _ (by simp)) (hl4' _ (by simp)) (hl4' _ (by simp)) (hl4' _ (by simp)) (hl4' _ (by simp)) (hl4' _ (by simp)) (hl4' _ (by simp)) (hl4' _ (by simp)) hx3 rfl rfl rfl
  rw [← hx3] at c1
  refine ⟨vB (l.map F1), vB ((l.map F1).map F2), x3, x3 + x3 / 256, x3 + x3 / 256 + (x3 + x3 / 256) / 65536, x3 + x3 / 256 + (x3 + x3 / 256) / 65536 + (x3 + x3 / 256 + (x3 + x3 / 256) / 65536) / 4294967296, ?_, ?_, ?_, ?_, ?_, ?_, ?_⟩
  · rw [hpk]
    have e1 := an (vB l / 2) 6148914691236517205 (by omega) (by decide)
    have e2 := an (vB l) 6148914691236517205 hx0 (by decide)
    rw [a1] at e1
    rw [a2] at e2
    have e3 := wr _ hx1
    rw [← a3] at e3 ⊢
    rw [← e3]
    simp only [Int.natCast_add]
    rw [← e1, ← e2]
    rfl
  · have e1 := an (vB (l.map F1) / 4) 3689348814741910323 (by omega) (by decide)
    have e2 := an (vB (l.map F1)) 3689348814741910323 hx1 (by decide)
    rw [b1] at e1
    rw [b2] at e2
    have e3 := wr _ hx2
    rw [← b3] at e3 ⊢
    rw [← e3]
    simp only [Int.natCast_add]
    rw [← e1, ← e2]
    rfl
  · have e1 := an _ 1085102592571150095 hh (by decide)
    rw [c1] at e1
    have e3 := wr _ hh
    rw [← e1, ← e3]
    rfl
  · rw [← wr (x3 + x3 / 256) (by omega)]; rfl
  · rw [← wr (x3 + x3 / 256 + (x3 + x3 / 256) / 65536) (by omega)]; rfl
  · rw [← wr (x3 + x3 / 256 + (x3 + x3 / 256) / 65536 + (x3 + x3 / 256 + (x3 + x3 / 256) / 65536) / 4294967296) (by omega)]; rfl
  · have hs : cnt h 64 = c0 + (c1' + (c2 + (c3 + (c4 + (c5 + (c6 + c7)))))) := by rw [← hcc]; rfl
    rw [hs, ← s7]
    generalize x3 + x3 / 256 + (x3 + x3 / 256) / 65536 + (x3 + x3 / 256 + (x3 + x3 / 256) / 65536) / 4294967296 = x6 at s6
    rw [show IntKind.i64.wrap (x6 : Int) = (x6 : Int) by rw [IntKind.wrap_i64]; omega]
    exact and127 x6 s6
end Go.Proofs.YtjmfhcliggjdgaaDoor
