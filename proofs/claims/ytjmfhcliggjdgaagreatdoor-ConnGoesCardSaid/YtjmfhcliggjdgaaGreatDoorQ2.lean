/- Texts of this claim, laid together by a program of its own: Row, RegO, Open, KeysL, MapV, Range, FlA, FlB, FlC, FlD, FlE, FlF, FlG, FrA, FrB, FrC, FrD. Each says in its first row what it proves. -/
import Derived.Maps.AppendAt
import Derived.Laws.CopyRow
import Derived.Deep.Slices
import Derived.Deep.Fields
import Derived.ChangeSame
import Derived.Deep.Onto
import Derived.Maps.RangeWalk
import Derived.Test.YtjmfhcliggjdgaaGreatDoorRows
import Derived.Deep.QuietTactic
import Derived.BigQuiet
import Derived.Test.YtjmfhcliggjdgaaGreatDoorQ1
/- 'append' to a slice of the call's own: where the new slice lies; in regions that draw their order too; no condition. -/
namespace Go.Proofs.YtjmfhcliggjdgaaGreatDoor
open Go Go.RowKit

section
variable {P : Program}
theorem run_app {w : World} {base : Nat} (t ty e : TypeId) (size : Nat) (ht : P.underlying t = some (.slice e)) {z : Value} {bytes : Nat} (hi : (P.info? e).map (fun i => (i.zero, i.size, i.bytes)) = some (some z, size, bytes)) (hzs : z.cells.size = size) (h0 : 0 < size)
    (v : Value) (n : Nat) (xs : List Value) (sv : Value) (m : Nat) (news : List Value) (hbase : base ≤ w.heap.size) (hown : w.ownsRow base e size v n xs) (hnews : Sl w sv size m news)
    (h1 : ∀ u ∈ news, u.oneCell' = true) (hb0 : 0 < bytes) (hbytes : (n + m) * bytes ≤ 140737488355328) :
    ∃ v' w', (Builtin.append_ #[t, t] ty #[v, sv]).run P w = .ok v' w' ∧ w'.ownsRow base e size v' (n + m) (xs ++ news) ∧ Mod (fun i => v.ownBlock = some i) w w' ∧ (v'.ownBlock = v.ownBlock ∨ v'.ownBlock = some w.heap.size) := by
  obtain ⟨i0, hi, hz0, hz1, hz2⟩ := info_parts hi
  rcases hnews with ⟨rfl, rfl, rfl⟩ | ⟨ad, c, rfl, hl, hc⟩
  · exact ⟨v, w, run_append_owned_none (P := P) (w := w) base t ty e i0 size ht hi v n xs hown, by simpa using hown, Mod.refl _ w, .inl rfl⟩
  · have h63 : n + m ≤ maxLen := by
      have : n + m ≤ (n + m) * bytes := Nat.le_mul_of_pos_right _ hb0
      unfold maxLen; omega
    obtain ⟨v', w', hr, h2, h3, _, h5⟩ := run_append_own_at (P := P) w base t ty e i0 z size bytes ht hi hz0 hz1 hz2 hzs h0 v n xs hown ad m c news hl hc h1 h63 hbytes hbase
    exact ⟨v', w', hr, h2, (Mod.refl _ w).grown h3 fun k hk => .inl hk, h5⟩
/-- 'append(v, sv...)'. -/
theorem app1 {w : World} {base : Nat} {ops : Array Oper} {rest : List Oper} {o : Oper} {a : Act} {Q : Exit → Act → World → Prop} (hgd : o.guard = none) (s x : Operand) (t e : TypeId) (size : Nat)
    (ho : o.op = .call { callee := .builtin .append, args := #[s, x], argTypes := #[t, t] }) (ht : P.underlying t = some (.slice e)) {z : Value} {bytes : Nat} (hi : (P.info? e).map (fun i => (i.zero, i.size, i.bytes)) = some (some z, size, bytes)) (hzs : z.cells.size = size) (h0 : 0 < size)
    (v : Value) (n : Nat) (xs : List Value) (sv : Value) (m : Nat) (news : List Value) (hbase : base ≤ w.heap.size) (hown : w.ownsRow base e size v n xs) (hs : a.eval s = v) (hx : a.eval x = sv) (hnews : Sl w sv size m news)
    (h1 : ∀ u ∈ news, u.oneCell' = true) (hb0 : 0 < bytes) (hbytes : (n + m) * bytes ≤ 140737488355328)
    (h : ∀ v' w', w'.ownsRow base e size v' (n + m) (xs ++ news) → Mod (fun i => v.ownBlock = some i) w w' → (v'.ownBlock = v.ownBlock ∨ v'.ownBlock = some w.heap.size) → wpList P ops Q rest (a.put o.dst v') w') : wpList P ops Q (o :: rest) a w := by
  obtain ⟨v', w', hr, h2, h3, h4⟩ := run_app (P := P) t o.type e size ht hi hzs h0 v n xs sv m news hbase hown hnews h1 hb0 hbytes
  refine wpList_plain hgd fun K hK => ?_
  unfold Oper.wp execOp
  simp only [ho, resolve, invoke, builtin, Sem.run_bind, Sem.run_pure, Result.andThen_ok, List.map_toArray, List.map_cons, List.map_nil, hs, hx, hr]
  exact hK _ _ (h v' w' h2 h3 h4)
/-- .. in a region that draws its order (kind 2). -/
theorem reg_app {ops : Array Oper} {S : World → Prop} {ov : List (Nat × Nat)} {rd : List FuncId} {Q : World → Act → Prop} {i : Nat} {o : Oper} {rest : List Oper} {w : World} {a : Act} {base : Nat}
    (hk : kd ov rd i o = 2) (hw : Region.wanted o (yielded ops a.tmps) = true) (s x : Operand) (t e : TypeId) (size : Nat)
    (ho : o.op = .call { callee := .builtin .append, args := #[s, x], argTypes := #[t, t] }) (ht : P.underlying t = some (.slice e)) {z : Value} {bytes : Nat} (hi : (P.info? e).map (fun i => (i.zero, i.size, i.bytes)) = some (some z, size, bytes)) (hzs : z.cells.size = size) (h0 : 0 < size)
    (v : Value) (n : Nat) (xs : List Value) (sv : Value) (m : Nat) (news : List Value) (hbase : base ≤ w.heap.size) (hown : w.ownsRow base e size v n xs) (hs : a.eval s = v) (hx : a.eval x = sv) (hnews : Sl w sv size m news)
    (h1 : ∀ u ∈ news, u.oneCell' = true) (hb0 : 0 < bytes) (hbytes : (n + m) * bytes ≤ 140737488355328)
    (h : ∀ v' w', w'.ownsRow base e size v' (n + m) (xs ++ news) → Mod (fun i => v.ownBlock = some i) w w' → (v'.ownBlock = v.ownBlock ∨ v'.ownBlock = some w.heap.size) → (∀ m, S (w'.drewN m)) ∧ wpReg P ops S ov rd Q (i + 1) rest w' (a.put o.dst v')) : wpReg P ops S ov rd Q i (o :: rest) w a := by
  refine reg_effS hk fun rn K hK => ?_
  obtain ⟨v', w', hr, h2, h3, h4⟩ := run_app (P := P) (w := w.drewN rn) t o.type e size ht hi hzs h0 v n xs sv m news hbase (by
    obtain ⟨o1, o2⟩ := hown
    rcases o2 with o2 | ⟨g, cap, cur, hv, hb, hh, rest⟩
    · exact ⟨o1, .inl o2⟩
    · exact ⟨o1, .inr ⟨g, cap, cur, hv, hb, hh, rest⟩⟩) (hnews.drewN rn) h1 hb0 hbytes
  unfold eOf
  rw [if_pos hw]
  unfold execOp
  simp only [ho, resolve, invoke, builtin, Sem.run_bind, Sem.run_pure, Result.andThen_ok, List.map_toArray, List.map_cons, List.map_nil, hs, hx, hr]
  exact hK _ _ (h v' w' h2 h3.undrew h4)
/-- 'append' to a slice of no room: what was there stays as it is. -/
theorem run_app0 {w : World} {base : Nat} (t ty e : TypeId) (size : Nat) (ht : P.underlying t = some (.slice e)) {z : Value} {bytes : Nat} (hi : (P.info? e).map (fun i => (i.zero, i.size, i.bytes)) = some (some z, size, bytes)) (hzs : z.cells.size = size) (h0 : 0 < size)
    (g : Nat) (sv : Value) (m : Nat) (news : List Value) (hbase : base ≤ g) (hg : Blk w g #[] e) (hnews : Sl w sv size m news)
    (h1 : ∀ u ∈ news, u.oneCell' = true) (hb0 : 0 < bytes) (hbytes : m * bytes ≤ 140737488355328) :
    ∃ v' w', (Builtin.append_ #[t, t] ty #[.slice (some ⟨g, 0, none⟩) 0 0, sv]).run P w = .ok v' w' ∧ w'.ownsRow base e size v' m news ∧ Mod (fun _ => False) w w' ∧ (v'.ownBlock = some g ∨ v'.ownBlock = some w.heap.size) := by
  obtain ⟨i0, hi', hz0, hz1, hz2⟩ := info_parts hi
  have hown : w.ownsRow base e size (.slice (some ⟨g, 0, none⟩) 0 0) 0 [] := ⟨by simp, .inr ⟨g, 0, #[], rfl, hbase, hg, Nat.le_refl _, Nat.zero_le _, by simp, by simp⟩⟩
  rcases hnews with ⟨rfl, rfl, rfl⟩ | ⟨ad, c, rfl, hl, hc⟩
  · exact ⟨_, w, run_append_owned_none (P := P) (w := w) base t ty e i0 size ht hi' _ 0 [] hown, hown, Mod.refl _ w, .inl rfl⟩
  · have h63 : m ≤ maxLen := by
      have : m ≤ m * bytes := Nat.le_mul_of_pos_right _ hb0
      unfold maxLen; omega
    by_cases hm : m = 0
    · subst hm
      have hn : news = [] := List.eq_nil_of_length_eq_zero (by simpa using hl)
      subst hn
      have hr := run_append_room (P := P) w t ty e i0 ht hi' g 0 0 #[] hg ad 0 c [] (by simp) hc h1 (Nat.le_refl _) (by simp)
      simp only [Nat.zero_mul, List.take_nil, List.nil_append, List.drop_nil, Nat.add_zero] at hr
      rw [setRow_self w g #[] e (0, 0) hg] at hr
      exact ⟨_, w, hr, hown, Mod.refl _ w, .inl rfl⟩
    · subst hz1
      subst hz2
      have hr := run_append_grow (P := P) w t ty e i0 z ht hi' hz0 ⟨g, 0, none⟩ 0 0 [] (by simp) (fun j u h => by simp at h) ad m c news hl hc (by omega) (by unfold maxLen at h63; omega) (growslice_fits (by omega) (by simpa using hbytes))
      have hgr : (w.drew.alloc (.cells (#[] ++ news.toArray ++ Builtin.zeroCells z.cells (grownCap w (0 + m) 0 e - (0 + m))) e)).ownsRow base e i0.size (.slice (some ⟨w.heap.size, 0, none⟩) (0 + m) (grownCap w (0 + m) 0 e)) m news := by
        have hge := grownCap_ge w (0 + m) 0 e
        have hcm : grownCap w (0 + m) 0 e ≤ maxLen := grownCap_le_maxLen w (0 + m) 0 e (by omega)
        refine ⟨hl, .inr ⟨w.heap.size, grownCap w (0 + m) 0 e, _, by simp, Nat.le_of_lt (Nat.lt_of_le_of_lt hbase hg.lt), heap_alloc_new w.drew _, by omega, hcm, ?_, ?_⟩⟩
        · simp only [Array.size_append, List.size_toArray, size_zeroCells, hzs, hl]
          generalize grownCap w (0 + m) 0 e = G at hge ⊢
          rw [List.length_nil, Nat.zero_add, Nat.zero_add, ← Nat.add_mul]
          congr 1
          omega
        · simp only [Array.toList_append, List.nil_append]
          rw [← hl]
          exact List.take_left
      exact ⟨_, _, hr, hgr, ⟨rfl, rfl, rfl, by simp, fun k hk _ => heap_alloc_old w.drew _ hk⟩, .inr rfl⟩
theorem reg_app0 {ops : Array Oper} {ov : List (Nat × Nat)} {rd : List FuncId} {Q : World → Act → Prop} {i : Nat} {o : Oper} {rest : List Oper} {w : World} {a : Act} {base : Nat}
    (hk : kd ov rd i o = 4) (hw : Region.wanted o (yielded ops a.tmps) = true) (s x : Operand) (t e : TypeId) (size : Nat)
    (ho : o.op = .call { callee := .builtin .append, args := #[s, x], argTypes := #[t, t] }) (ht : P.underlying t = some (.slice e)) {z : Value} {bytes : Nat} (hi : (P.info? e).map (fun i => (i.zero, i.size, i.bytes)) = some (some z, size, bytes)) (hzs : z.cells.size = size) (h0 : 0 < size)
    (g : Nat) (sv : Value) (m : Nat) (news : List Value) (hbase : base ≤ g) (hg : Blk w g #[] e) (hs : a.eval s = .slice (some ⟨g, 0, none⟩) 0 0) (hx : a.eval x = sv) (hnews : Sl w sv size m news)
    (h1 : ∀ u ∈ news, u.oneCell' = true) (hb0 : 0 < bytes) (hbytes : m * bytes ≤ 140737488355328)
    (h : ∀ v' w', w'.ownsRow base e size v' m news → Mod (fun _ => False) w w' → (v'.ownBlock = some g ∨ v'.ownBlock = some w.heap.size) → wpReg P ops (fun _ => True) ov rd Q (i + 1) rest w' (a.put o.dst v')) : wpReg P ops (fun _ => True) ov rd Q i (o :: rest) w a := by
  refine reg_new hk fun rn K hK => ?_
  obtain ⟨v', w', hr, h2, h3, h4⟩ := run_app0 (P := P) (w := w.drewN rn) t o.type e size ht hi hzs h0 g sv m news hbase hg (hnews.drewN rn) h1 hb0 hbytes
  unfold eOf
  rw [if_pos hw]
  unfold execOp
  simp only [ho, resolve, invoke, builtin, Sem.run_bind, Sem.run_pure, Result.andThen_ok, List.map_toArray, List.map_cons, List.map_nil, hs, hx, hr]
  exact hK _ _ ⟨h3.undrew.ex (n := 0), h v' w' h2 h3.undrew h4⟩
/-- An operation that is quiet in every world of the class (kind 0): a load of one cell. -/
theorem reg_loadS {ops : Array Oper} {S : World → Prop} {ov : List (Nat × Nat)} {rd : List FuncId} {Q : World → Act → Prop} {i : Nat} {o : Oper} {rest : List Oper} {w : World} {a : Act}
    (hk : kd ov rd i o = 0) (hw : Region.wanted o (yielded ops a.tmps) = true) (v : Value) (t : TypeId) (x : Operand) (p : Addr) (ho : o.op = .load t x) (hx : a.eval x = .pointer (some p)) (ht : ∀ w, (isAgg t).run P w = .ok false w) (hc : ∀ w, S w → w.cell? p = some v)
    (h : wpReg P ops S ov rd Q (i + 1) rest w (a.put o.dst v)) : wpReg P ops S ov rd Q i (o :: rest) w a := by
  refine reg_any hk fun K hK => ?_
  unfold qOf
  rw [if_pos hw]
  refine ⟨v, fun w' hs => ?_, hK _ _ h⟩
  simp [execOp, ho, hx, Instr.loadAt, Instr.sureAddr, loadVar, load, Sem.run, hc w' hs, ht, Result.andThen, valUpon]
end
/-- Two slices of the call's own that never share a row. -/
def Apart (v v' : Value) : Prop := ∀ k, v.ownBlock = some k → v'.ownBlock ≠ some k
theorem Apart.symm {v v' : Value} (h : Apart v v') : Apart v' v := fun k h1 h2 => h k h2 h1
theorem Apart.nil (v : Value) : Apart (.slice none 0 0) v := fun k h => by cases h
/-- Behind an append to v: it is apart from u yet. -/
theorem Apart.step {w : World} {base : Nat} {e : TypeId} {K : Nat} {u v v' : Value} {n : Nat} {xs : List Value} (h : Apart v u) (ho : w.ownsRow base e K u n xs) {B : Nat} (hB : w.heap.size ≤ B) (hv : v'.ownBlock = v.ownBlock ∨ v'.ownBlock = some B) : Apart v' u := by
  intro k hk hu
  rcases hv with hv | hv
  · exact h k (hv.symm.trans hk) hu
  · rw [hv] at hk
    cases hk
    have := (ho.lt B hu).2
    omega
/-- A slice that another one's append leaves. -/
theorem owns_apart {w w' : World} {base : Nat} {e : TypeId} {size : Nat} {v u : Value} {n : Nat} {xs : List Value} (h : w.ownsRow base e size u n xs) (hm : Mod (fun i => v.ownBlock = some i) w w') (ha : Apart v u) : w'.ownsRow base e size u n xs := by
  obtain ⟨h1, h2⟩ := h
  rcases h2 with h2 | ⟨g, cap, cur, hv, hb, hh, rest⟩
  · exact ⟨h1, .inl h2⟩
  · exact ⟨h1, .inr ⟨g, cap, cur, hv, hb, (show Blk w g cur e from hh).mod hm (fun h => ha g h (by rw [hv]; rfl)), rest⟩⟩
/-- .. whatever of the blocks that were not there turns besides. -/
theorem Mod.also {S T : Nat → Prop} {a b c : World} (h : Mod S a b) (k : Mod T b c) (hT : ∀ i, T i → S i ∨ a.heap.size ≤ i) : Mod S a c :=
  ⟨k.os.trans h.os, k.tape.trans h.tape, k.output.trans h.output, Nat.le_trans h.size k.size, fun i hi hs => (k.block i (Nat.lt_of_lt_of_le hi h.size) (fun e => by rcases hT i e with h1 | h1; exact hs h1; omega)).trans (h.block i hi hs)⟩
theorem owns_modG {S : Nat → Prop} {w w' : World} {base : Nat} {e : TypeId} {size : Nat} {v : Value} {n : Nat} {xs : List Value} (h : w.ownsRow base e size v n xs) (hm : Mod S w w') (hS : ∀ i, base ≤ i → ¬ S i) : w'.ownsRow base e size v n xs := by
  obtain ⟨h1, h2⟩ := h
  rcases h2 with h2 | ⟨g, cap, cur, hv, hb, hh, rest⟩
  · exact ⟨h1, .inl h2⟩
  · exact ⟨h1, .inr ⟨g, cap, cur, hv, hb, (show Blk w g cur e from hh).mod hm (hS g hb), rest⟩⟩
theorem own_ge {w : World} {base : Nat} {e : TypeId} {size : Nat} {u : Value} {n : Nat} {xs : List Value} (h : w.ownsRow base e size u n xs) : ∀ i, u.ownBlock = some i → base ≤ i := fun i hi => (h.lt i hi).1
end Go.Proofs.YtjmfhcliggjdgaaGreatDoor

/- A region that draws its order, walked once in an order of one's own choice; for every region that passes a test on its edges; no other condition. -/
namespace Go.Proofs.YtjmfhcliggjdgaaGreatDoor
open Go

section
variable {P : Program} {ops : Array Oper} {md : Region.Mode} {S : World → Prop}
def cmpAt (ops : Array Oper) (kf : Nat → Oper → Nat) (i j : Nat) : Bool :=
  match ops[i]?, ops[j]? with
  | some oi, some oj => cmpB (kf i oi) (kf j oj)
  | _, _ => true
def ordB (md : Region.Mode) (ops : Array Oper) (kf : Nat → Oper → Nat) : List Nat → Array Bool → Bool
  | [], listed => (Region.ready md ops listed).isEmpty
  | i :: is, listed => (Region.ready md ops listed).contains i && Region.free md ops listed i && ((List.range ops.size).all fun j => j == i || listed.getD j true || cmpAt ops kf i j || (descs md ops i).contains j) && ordB md ops kf is (listed.setIfInBounds i true)
def wpOrd (P : Program) (ops : Array Oper) (S : World → Prop) (kf : Nat → Oper → Nat) (Q : World → Act → Prop) : List Nat → World → Act → Prop
  | [], w, a => Q w a
  | i :: is, w, a => match ops[i]? with
    | none => False
    | some o => op2 P ops S (kf i o) o (wpOrd P ops S kf Q is) w a
theorem any2_ord {kf : Nat → Oper → Nat} {Q : World → Act → Prop} (hs : Region.noSelect ops = true) : ∀ (is : List Nat) (listed : Array Bool) (w : World) (a : Act), (∀ n, S (w.drewN n)) → DC md ops listed →
    ordB md ops kf is listed = true → wpOrd P ops S kf Q is w a → any2 P md ops S kf Q is.length listed w a
  | [], listed, w, a, _, _, hB, h => ⟨by simpa [ordB] using hB, h⟩
  | i :: is, listed, w, a, hS, hd, hB, h => by
    unfold wpOrd at h
    cases h0 : ops[i]? with
    | none => rw [h0] at h; exact h.elim
    | some o =>
      rw [h0] at h
      simp only [ordB, Bool.and_eq_true] at hB
      obtain ⟨⟨⟨hr, hf⟩, hc⟩, hB'⟩ := hB
      have hr' : i ∈ Region.ready md ops listed := by simpa using hr
      refine any2_first h0 (Region.noSelect_spec hs) is.length listed w a hS hd (Region.free_spec h0 hf) (fun j oj hoj hji hun hno => ?_) hr'
        (op2_monoS hS (fun w' a' hS' h' => any2_ord hs is _ _ _ hS' (dc_set hd hr') hB' h') h)
      have hlt := (Array.getElem?_eq_some_iff.1 hoj).1
      have h1 := List.all_eq_true.1 hc j (List.mem_range.2 hlt)
      simp only [Bool.or_eq_true, beq_iff_eq, hji, false_or, hun, Bool.false_eq_true] at h1
      rcases h1 with h1 | h1
      · unfold cmpAt at h1
        rw [h0, hoj] at h1
        exact h1
      · exact absurd (by simpa using h1) hno
theorem wpOrd_of_reg {ov : List (Nat × Nat)} {rd : List FuncId} {Q : World → Act → Prop} {l : List Oper} (order : List Nat) (hn : ∀ k, k < order.length → order.idxOf (order.getD k 0) = k) : ∀ (is : List Nat) (k : Nat) (w : World) (a : Act), (∀ j, is[j]? = order[k + j]?) → (∀ j ∈ is, j < l.length) →
    wpReg P l.toArray S ov rd Q k (is.filterMap fun i => l[i]?) w a → wpOrd P l.toArray S (fun i o => kd ov rd (order.idxOf i) o) Q is w a
  | [], k, w, a, _, _, h => by
    rw [List.filterMap_nil, wpReg_nil] at h
    exact h
  | i :: is, k, w, a, ho, hlt, h => by
    have hi := hlt i (List.mem_cons_self ..)
    have hli : l[i]? = some (l[i]'hi) := List.getElem?_eq_getElem hi
    rw [List.filterMap_cons, hli] at h
    rw [wpReg_cons] at h
    have hk := ho 0
    simp only [List.getElem?_cons_zero, Nat.add_zero] at hk
    have hkl := (List.getElem?_eq_some_iff.1 hk.symm).1
    have hidx := hn k hkl
    rw [List.getD_eq_getElem?_getD, ← hk, Option.getD_some] at hidx
    unfold wpOrd
    have hai : l.toArray[i]? = some (l[i]'hi) := by simp
    rw [hai]
    simp only [hidx]
    exact op2_mono (fun w' a' h' => wpOrd_of_reg order hn is (k + 1) w' a' (fun j => by have := ho (j + 1); simpa [Nat.add_assoc, Nat.add_comm 1 j] using this) (fun j hj => hlt j (List.mem_cons_of_mem _ hj)) h') h
def ordOK (md : Region.Mode) (ops : Array Oper) (ov : List (Nat × Nat)) (rd : List FuncId) (order : List Nat) : Bool :=
  Region.noSelect ops && order.length == ops.size && ((List.range order.length).all fun k => order.idxOf (order.getD k 0) == k && decide (order.getD k 0 < ops.size)) && ordB md ops (fun i o => kd ov rd (order.idxOf i) o) order (Array.replicate ops.size false)
/-- THE WALK IN THE ORDER 'order'; ov: kinds by place IN THAT ORDER. -/
theorem wp_regionO {id : Nat} {Q' : Exit → Act → World → Prop} {a : Act} {w : World} {l : List Oper} (order : List Nat) (ov : List (Nat × Nat)) (rd : List FuncId) (S : World → Prop) (hm : P.follows .mixedOrders = true) (hB : ordOK .any l.toArray ov rd order = true)
    (hS : ∀ n, S (w.drewN n)) {l' : List Oper} (hl : (order.filterMap fun i => l[i]?) = l') (h : wpReg P l.toArray S ov rd (fun w' a' => ∀ n, Q' .normal a' (w'.drewN n)) 0 l' w a) : (Code.region id l.toArray true).wp P Q' a w := by
  subst hl
  simp only [ordOK, Bool.and_eq_true, beq_iff_eq] at hB
  obtain ⟨⟨⟨h1, h2⟩, h3⟩, h4⟩ := hB
  have h3' : ∀ k, k < order.length → order.idxOf (order.getD k 0) = k ∧ order.getD k 0 < l.length := fun k hk => by
    have := List.all_eq_true.1 h3 k (List.mem_range.2 hk)
    simp only [Bool.and_eq_true, beq_iff_eq, decide_eq_true_eq] at this
    exact ⟨this.1, this.2⟩
  refine wp_region_any hm ?_
  have h5 := wpOrd_of_reg (P := P) (S := S) (ov := ov) (rd := rd) (Q := fun w' a' => ∀ n, Q' .normal a' (w'.drewN n)) (l := l) order (fun k hk => (h3' k hk).1) order 0 w a (fun j => by rw [Nat.zero_add]) (fun j hj => by
    obtain ⟨k, hk⟩ := List.getElem?_of_mem hj
    have hkl := (List.getElem?_eq_some_iff.1 hk).1
    have := (h3' k hkl).2
    rwa [List.getD_eq_getElem?_getD, hk, Option.getD_some] at this) h
  have h6 := any2_ord (P := P) (md := .any) (S := S) h1 order (Array.replicate l.toArray.size false) w a hS (fun j o ho hl => by
        have hlt := (Array.getElem?_eq_some_iff.1 ho).1
        rw [Array.getElem?_replicate, if_pos hlt] at hl; cases hl) h4 h5
  rw [h2] at h6
  have h7 := wpAny_of_2 (Q' := Q') (fun w a h => h) _ _ w a hS h6 1
  show wpAny P .any l.toArray Q' l.toArray.size (Array.replicate l.toArray.size false) a (w.drewN 1)
  simpa using h7
theorem wp_regionO2 {id : Nat} {Q' : Exit → Act → World → Prop} {a : Act} {w : World} {l : List Oper} (order : List Nat) (ov : List (Nat × Nat)) (rd : List FuncId) (hm : P.follows .mixedOrders = true) (hB : ordOK .any l.toArray ov rd order = true)
    {l' : List Oper} (hl : (order.filterMap fun i => l[i]?) = l') (h : wpReg P l.toArray (fun _ => True) ov rd (fun w' a' => ∀ n, Q' .normal a' (w'.drewN n)) 0 l' w a) : (Code.region id l.toArray true).wp P Q' a w :=
  wp_regionO order ov rd _ hm hB (fun _ => trivial) hl h
end
end Go.Proofs.YtjmfhcliggjdgaaGreatDoor

/- Arguments opened to cells: slices of structs of one-cell fields; no condition. -/
namespace Go.Proofs.YtjmfhcliggjdgaaGreatDoor
open Go Go.RowKit Go.ChangeShapes Go.WideShapes Go.Deep

section
variable {H : Type} {enc : TypeId × Value → H} {P : Program} {w : World} {base : Nat} {spare : Nat → Bool} {held : Bool}
/-- For every element and every field: its cell, and its own reading. -/
theorem open_fields {t e : TypeId} {fs : Array Field} {fuel : Nat} {cs : List Value} {x : DataW H × List MemPlace} (ht : P.underlying t = some (.slice e)) (he : P.underlying e = some (.struct fs))
    (hone : oneCellFields P fs = true) (hC : P.cellsOf e = fs.size) (h : DataW.trod enc P w base spare held fuel t cs = some x) :
    (cs = [.slice none 0 0]) ∨
    ∃ (a : Addr) (len cap m : Nat), cs = [.slice (some a) len cap] ∧ len ≤ cap ∧ cap ≤ maxLen ∧ m = (if spare a.block then cap else len) ∧
      ∀ i, i < m → ∃ n : Nat, ∀ (j : Nat) (f : Field), fs[j]? = some f → ∃ (v : Value) (y : DataW H × List MemPlace), w.cell? (a.add (i * fs.size + j)) = some v ∧ DataW.trod enc P w base spare held n f.type [v] = some y := by
  rcases open_slice ht h with h0 | ⟨a, len, cap, m, n, D, Pl, hcs, hb, hl, hm, hmm, hx, hi⟩
  · exact .inl h0.1
  · refine .inr ⟨a, len, cap, m, hcs, hl, hm, hmm, fun i him => ?_⟩
    obtain ⟨cs', hc, ht'⟩ := hi i him
    rw [hC] at hc
    obtain ⟨ys, n', hn', hy, hlen, hyl, hf⟩ := DataW.trod_struct he ht'
    obtain ⟨_, hcl, hat⟩ := World.cells?_some hc
    refine ⟨n', fun j f hj => ?_⟩
    obtain ⟨ho, hk⟩ := hone_of hone j f hj
    have hjl : j < fs.size := (Array.getElem?_eq_some_iff.1 hj).1
    have hcell := hat j hjl
    have hv : cs'[j]? = some (cs'[j]'(by omega)) := List.getElem?_eq_getElem (by omega)
    have h1 := hf j f hj
    rw [ho, hk] at h1
    have hone' : (cs'.drop j).take 1 = [cs'[j]'(by omega)] := by
      rw [List.drop_eq_getElem_cons (by omega)]
      rfl
    rw [hone'] at h1
    have hys : ys[j]? = some (ys[j]'(by omega)) := List.getElem?_eq_getElem (by omega)
    refine ⟨_, _, ?_, h1.trans hys⟩
    rw [← Go.Deep.add_add, hcell, hv]
end
end Go.Proofs.YtjmfhcliggjdgaaGreatDoor

/- The keys of a map of ints, sorted, in plain words; no condition. -/
namespace Go.Proofs.YtjmfhcliggjdgaaGreatDoor
open Go Go.RowKit

theorem keys_toD (l : List (Int × Value)) : intKeys (toD l) = keysL l := by
  simp only [toD, intKeys, keysL, List.map_map]
  rfl
theorem size_toD (l : List (Int × Value)) : Maps.size (toD l) = l.length := by simp [toD, Maps.size]
theorem keys_le {α : Type} : ∀ {l : List (Int × α)}, Rising l → (keysL l).Pairwise fun a b => decide (a ≤ b) = true
  | [], _ => List.Pairwise.nil
  | p :: l, h => by
    obtain ⟨h1, h2⟩ := List.pairwise_cons.1 h
    refine List.pairwise_cons.2 ⟨fun a ha => ?_, keys_le h2⟩
    obtain ⟨q, hq, rfl⟩ := List.mem_map.1 ha
    have := h1 q hq
    simp only [decide_eq_true_eq]
    omega
theorem sort_keys {α : Type} {l : List (Int × α)} (hr : Rising l) {ss : List Int} (h : ss.Perm (keysL l)) : ss.mergeSort (fun x y => decide (x ≤ y)) = keysL l := by
  have tr : ∀ a b c : Int, decide (a ≤ b) = true → decide (b ≤ c) = true → decide (a ≤ c) = true := fun a b c h1 h2 => by simp only [decide_eq_true_eq] at *; omega
  have to : ∀ a b : Int, (decide (a ≤ b) || decide (b ≤ a)) = true := fun a b => by simp only [Bool.or_eq_true, decide_eq_true_eq]; omega
  refine List.Perm.eq_of_pairwise (le := fun a b : Int => decide (a ≤ b) = true) (fun a b _ _ h1 h2 => ?_) (List.pairwise_mergeSort tr to ss) (keys_le hr) ((List.mergeSort_perm ss _).trans h)
  simp only [decide_eq_true_eq] at h1 h2
  omega
abbrev intL (l : List Int) : List Value := l.map (Value.int .i64)
/-- What is handed back: a list of integers in new memory. -/
def IntsP (l : List Int) (w : World) (e : Ending) (w' : World) : Prop := ∃ v, e = .returned v ∧ w'.ownsRow w.heap.size 3 1 v l.length (intL l) ∧ Mod (fun _ => False) w w'
theorem IntsP.of_sorted {l : List (Int × Value)} (hr : Rising l) {w w1 : World} {e : Ending} {w' : World} (h1 : Mod (fun _ => False) w w1) (h : ∃ (v : Value) (ss : List Int), e = .returned v ∧ ss.Perm (intKeys (toD l)) ∧ w'.ownsRow w1.heap.size 3 1 v ss.length ((ss.mergeSort (fun x y => decide (x ≤ y))).map (Value.int .i64)) ∧ Below w1.heap.size w1 w') : IntsP (keysL l) w e w' := by
  obtain ⟨v, ss, he, hp, ho, hb⟩ := h
  rw [keys_toD] at hp
  refine ⟨v, he, ?_, h1.trans (Mod.of_below hb)⟩
  rw [sort_keys hr hp, hp.length_eq] at ho
  exact ho.mono h1.size
end Go.Proofs.YtjmfhcliggjdgaaGreatDoor

/- A map from ints to records, as a rising list; no condition. -/
namespace Go.Proofs.YtjmfhcliggjdgaaGreatDoor
open Go Go.RowKit
variable {α : Type}

/-- The entries as values. -/
def mpV (f : Int → α → Value) (ks : List (Int × α)) : List (Int × Value) := ks.map fun p => (p.1, f p.1 p.2)
theorem lk_mpV (f : Int → α → Value) (ks : List (Int × α)) (id : Int) : lkL (mpV f ks) id = (lkL ks id).map (f id) := by
  unfold lkL mpV
  rw [List.find?_map]
  cases h : ks.find? (fun p => p.1 == id) with
  | none => rw [show ((fun p : Int × Value => p.1 == id) ∘ fun p : Int × α => (p.1, f p.1 p.2)) = fun p => p.1 == id from rfl, h]; rfl
  | some p =>
    rw [show ((fun p : Int × Value => p.1 == id) ∘ fun p : Int × α => (p.1, f p.1 p.2)) = fun p => p.1 == id from rfl, h]
    have := List.find?_some h
    simp at this
    simp [this]
theorem del_mpV (f : Int → α → Value) (ks : List (Int × α)) (id : Int) : delL (mpV f ks) id = mpV f (delL ks id) := by
  unfold delL mpV
  rw [List.filter_map]
  rfl
theorem ins_mpV (f : Int → α → Value) (id : Int) (r : α) : ∀ ks : List (Int × α), insS (id, f id r) (mpV f ks) = mpV f (insS (id, r) ks)
  | [] => rfl
  | y :: t => by
    show insS (id, f id r) ((y.1, f y.1 y.2) :: mpV f t) = _
    unfold insS
    by_cases h : id < y.1
    · simp only [h, if_true]; rfl
    · simp only [h, if_false, ins_mpV f id r t]; rfl
theorem put_mpV (f : Int → α → Value) (ks : List (Int × α)) (id : Int) (r : α) : putL (mpV f ks) id (f id r) = mpV f (putL ks id r) := by
  unfold putL
  rw [del_mpV, ins_mpV]
theorem len_mpV (f : Int → α → Value) (ks : List (Int × α)) : (mpV f ks).length = ks.length := by simp [mpV]
theorem keys_mpV (f : Int → α → Value) (ks : List (Int × α)) : keysL (mpV f ks) = keysL ks := by simp [mpV, keysL, List.map_map]
theorem rising_mpV {f : Int → α → Value} {ks : List (Int × α)} : Rising (mpV f ks) ↔ Rising ks := by
  unfold Rising mpV
  rw [List.pairwise_map]
end Go.Proofs.YtjmfhcliggjdgaaGreatDoor

/- 'for k, v := range m' over a map with int keys: what is yet to come, as a list; no condition. -/
namespace Go.Proofs.YtjmfhcliggjdgaaGreatDoor
open Go Go.RowKit

/-- Under way over map b, by iterator r: of the pairs l those of 'todo' are yet to come. -/
structure IRange (P : Program) (K : TypeId) (w : World) (b r : Nat) (l todo : List (Int × Value)) : Prop where
  rising : Rising l
  run : ∃ left cnt, w.ranges P K RV b r l.length (toD l) left cnt ∧ todo = l.filter fun p => left (.int .i64 p.1)
section
variable {P : Program} {K T E : TypeId} {w : World} {b r : Nat} {l todo : List (Int × Value)}
theorem IRange.map (h : IRange P K w b r l todo) : IMap P K w b l := by
  obtain ⟨left, cnt, h1, _⟩ := h.run
  exact ⟨h.rising, h1.owns⟩
theorem IRange.mod {S : Nat → Prop} {w' : World} (h : IRange P K w b r l todo) (hm : Mod S w w') (hb : ¬ S b) (hr : ¬ S r) : IRange P K w' b r l todo := by
  obtain ⟨left, cnt, h1, h2⟩ := h.run
  refine ⟨h.rising, left, cnt, ?_, h2⟩
  obtain ⟨es, clock, since, seen, c0, g1, g2, g3, g4, g5, g6⟩ := h1
  exact ⟨es, clock, since, seen, c0, hm.heap g1 hb, g2, g3, g4, hm.heap g5 hr, g6⟩
theorem IRange.new {w' : World} (h : IRange P K w b r l todo) (hm : Mod (fun _ => False) w w') : IRange P K w' b r l todo := h.mod hm (fun h => h) (fun h => h)
theorem IRange.left {w' : World} (h : IRange P K w b r l todo) (hm : Mod (fun _ => False) w w') : w'.rangeLeft b r = w.rangeLeft b r := by
  obtain ⟨left, cnt, h1, _⟩ := h.run
  obtain ⟨es, clock, since, seen, c0, g1, _, _, _, g5, _⟩ := h1
  unfold World.rangeLeft
  rw [hm.heap g1 (fun h => h), hm.heap g5 (fun h => h), g1, g5]
theorem sameKey_int (a k : Int) : (Lit.int .i64 a).sameKey (.int .i64 k) = decide (a = k) := by
  simp [Lit.sameKey]

variable {ops : Array Oper} {rest : List Oper} {o : Oper} {a : Act} {Q : Exit → Act → World → Prop}
theorem range_start (hg : o.guard = none) (m : Operand) (hop : o.op = Op.range T m) (hK : P.underlying K = some (.int .i64)) (hT : P.underlying T = some (.map K E)) (hm : a.eval m = .map (some b)) (h : IMap P K w b l)
    (hN : ∀ w', IRange P K w' b w.heap.size l l → Mod (fun _ => False) w w' → w'.heap.size = w.heap.size + 1 → wpList P ops Q rest (a.put o.dst (.pointer (some ⟨w.heap.size, 0, none⟩))) w') : wpList P ops Q (o :: rest) a w := by
  refine wpList_range_own w hg m T hop K E (Maps.int_keyed hK) hT RV b _ _ hm h.owns fun w' h1 h2 h3 => hN w' ⟨h.rising, _, _, h1, ?_⟩ ⟨h2.os, h2.tape, h2.output, h2.size, fun k hk _ => h2.block k hk (by simp)⟩ h3
  symm
  rw [List.filter_eq_self]
  intro p hp
  rw [has_toD, lk_of_mem h.rising (k := p.1) (v := p.2) hp]
  rfl
theorem range_next (hg : o.guard = none) (it : Operand) (hop : o.op = Op.next it false) (hK : P.underlying K = some (.int .i64)) (hit : a.eval it = .pointer (some ⟨r, 0, none⟩)) (h : IRange P K w b r l todo)
    (hDone : todo = [] → wpList P ops Q rest (a.put o.dst (.tuple #[.bool false])) w)
    (hMore : ∀ (x : Int) (c : Value) (w' : World), I64 x → (x, c) ∈ todo → (x, c) ∈ l → IRange P K w' b r l (delL todo x) → w'.rangeLeft b r < w.rangeLeft b r → Mod (· = r) w w' → w'.heap.size = w.heap.size →
      (Instr.entry (.pointer (some ⟨r, 0, none⟩))).run P w' = .ok (.tuple #[.int .i64 x, c]) w' → wpList P ops Q rest (a.put o.dst (.tuple #[.bool true, .int .i64 x, c])) w') : wpList P ops Q (o :: rest) a w := by
  obtain ⟨left, cnt, h1, h2⟩ := h.run
  refine wpList_next_ranges w hg it hop K (Maps.int_keyed hK) RV (Value.int .i64) id (fun key kl hk => by obtain ⟨x, hx, _⟩ := Maps.keyOf_int_inv hK hk; exact ⟨x, hx⟩) (fun v _ _ => ⟨v, rfl⟩) b r _ _ left cnt hit h1 (fun _ hl => hDone (by rw [h2, List.filter_eq_nil_iff]; intro p _; simp [hl])) ?_
  intro x c kl y w' cnt' hkey hlk hv hat hrg hlt hgr hsz hen
  obtain ⟨x', ex, rfl, hwf⟩ := Maps.keyOf_int_inv hK hkey
  cases ex
  cases hv
  have hlk2 : lkL l x = some c := by
    cases hf : lkL l x with
    | some v =>
      have := hat (.held c)
      rw [atKey_toD, hf] at this
      simpa using this
    | none =>
      exfalso
      have e1 := hat (.held (.bool true))
      have e2 := hat (.held (.bool false))
      rw [atKey_toD, hf] at e1 e2
      simp only [Option.getD_none] at e1 e2
      rw [← e2] at e1
      simp at e1
  have hml := lk_some_mem hlk2
  refine hMore x c w' hwf ?_ hml ⟨h.rising, _, _, hrg, ?_⟩ (by rw [hrg.left_eq, h1.left_eq]; exact hlt) ⟨hgr.os, hgr.tape, hgr.output, hgr.size, fun k hk hs => hgr.block k hk (fun e => hs (Option.some.inj e))⟩ hsz hen
  · rw [h2, List.mem_filter]
    exact ⟨hml, hlk⟩
  · rw [h2]
    unfold delL
    rw [List.filter_filter]
    apply List.filter_congr
    intro p _
    rw [sameKey_int, Bool.and_comm]
    simp
end
end Go.Proofs.YtjmfhcliggjdgaaGreatDoor

/- Package flight: the table, New, Of; no condition. -/
namespace Go.Proofs.YtjmfhcliggjdgaaGreatDoor.Fl
open Go Go.RowKit

/-- Of a piece that is on the way: who was asked for it, and when. -/
structure Rq where
  p : Int
  t : Int
def rqv (k : Int) (r : Rq) : Value := .agg #[.int .i64 r.p, .int .i64 k, .int .i64 r.t]
abbrev rq0 : Value := .agg #[.int .i64 0, .int .i64 0, .int .i64 0]
/-- A table at block b, its map at block M. -/
structure TB (w : World) (b M : Nat) (most each pat : Int) (ks : List (Int × Rq)) : Prop where
  head : Blk w b #[.int .i64 most, .int .i64 each, .int .i64 pat, .map (some M)] 114
  map : IMap Tryz.prog 3 w M (mpV rqv ks)
  ne : M ≠ b
theorem TB.mod {S : Nat → Prop} {w w' : World} {b M : Nat} {most each pat : Int} {ks : List (Int × Rq)} (h : TB w b M most each pat ks) (hm : Mod S w w') (hb : ¬ S b) (hM : ¬ S M) : TB w' b M most each pat ks := ⟨h.head.mod hm hb, h.map.mod hm hM, h.ne⟩
theorem TB.new {w w' : World} {b M : Nat} {most each pat : Int} {ks : List (Int × Rq)} (h : TB w b M most each pat ks) (hm : Mod (fun _ => False) w w') : TB w' b M most each pat ks := h.mod hm (fun h => h) (fun h => h)
theorem TB.drewN {w : World} {b M : Nat} {most each pat : Int} {ks : List (Int × Rq)} (h : TB w b M most each pat ks) (n : Nat) : TB (w.drewN n) b M most each pat ks := ⟨h.head, h.map.drewN n, h.ne⟩
theorem TB.lt {w : World} {b M : Nat} {most each pat : Int} {ks : List (Int × Rq)} (h : TB w b M most each pat ks) : b < w.heap.size ∧ M < w.heap.size := ⟨h.head.lt, h.map.lt⟩
theorem TB.rising {w : World} {b M : Nat} {most each pat : Int} {ks : List (Int × Rq)} (h : TB w b M most each pat ks) : Rising ks := rising_mpV.1 h.map.rising

theorem zeroRq (w : World) : (zeroValue 42).run Tryz.prog w = .ok rq0 w := by kernel_rfl

set_option maxHeartbeats 400000 in
theorem flWithin (n lo hi : Int) (w : World) :
    Calls Tryz.prog 57 #[.int .i64 n, .int .i64 lo, .int .i64 hi] w fun e w' => e = .returned (.bool (decide (lo ≤ n) && decide (n ≤ hi))) ∧ w = w' := by
  by_cases h1 : lo ≤ n
  · go_enter Tryz.func57, Tryz.ntmps57
    go_wp2_with fail
    go_ret
    exact ⟨by simp [h1], rfl⟩
  · have h2 : decide (lo ≤ n) = false := by simpa using h1
    go_enter Tryz.func57, Tryz.ntmps57
    go_wp2_with fail
    go_ret
    exact ⟨by simp, rfl⟩

/-- What New asks. -/
def NewOk (most each pat : Int) : Prop := 1 ≤ most ∧ most ≤ 256 ∧ 1 ≤ each ∧ each ≤ most ∧ 1 ≤ pat ∧ pat ≤ 1048576
set_option maxRecDepth 100000 in
set_option maxHeartbeats 400000 in
theorem flNew (most each pat : Int) (w : World) (h : NewOk most each pat) :
    Calls Tryz.prog 27 #[.int .i64 most, .int .i64 each, .int .i64 pat] w fun e w' => e = .returned (.tuple #[.pointer (some ⟨w.heap.size + 1, 0, none⟩), .int .i64 0]) ∧ TB w' (w.heap.size + 1) w.heap.size most each pat [] ∧ Mod (fun _ => False) w w' ∧ w'.heap.size = w.heap.size + 2 := by
  obtain ⟨h1, h2, h3, h4, h5, h6⟩ := h
  have e1 : (decide (1 ≤ most) && decide (most ≤ 256)) = true := by simp [h1, h2]
  have e2 : (decide (1 ≤ each) && decide (each ≤ most)) = true := by simp [h3, h4]
  have e3 : (decide (1 ≤ pat) && decide (pat ≤ 1048576)) = true := by simp [h5, h6]
  have hmm := @run_makeMap Tryz.prog
  go_enter Tryz.func27, Tryz.ntmps27
  go_wp2_with fail
  refine (flWithin _ _ _ _).mono ?_; rw [e1]; rintro e w' ⟨rfl, rfl⟩
  go_wp2_with fail
  refine (flWithin _ _ _ _).mono ?_; rw [e2]; rintro e w' ⟨rfl, rfl⟩
  go_wp2_with fail
  refine (flWithin _ _ _ _).mono ?_; rw [e3]; rintro e w' ⟨rfl, rfl⟩
  go_wp2_with fail
  go_ret2
  refine ⟨rfl, ⟨?_, (IMap.made Tryz.prog 3 w).alloc _, by omega⟩, ((Mod.refl _ w).alloc _).alloc _, by simp⟩
  have := Blk.new (w.alloc (.map #[] 0)) #[.int .i64 most, .int .i64 each, .int .i64 pat, .map (some w.heap.size)] 114
  simpa using this
set_option maxRecDepth 100000 in
set_option maxHeartbeats 400000 in
theorem flNewBad (most each pat : Int) (w : World) (h : ¬ NewOk most each pat) :
    Calls Tryz.prog 27 #[.int .i64 most, .int .i64 each, .int .i64 pat] w fun e w' => e = .returned (.tuple #[.pointer none, .int .i64 1]) ∧ w = w' := by
  unfold NewOk at h
  by_cases a1 : 1 ≤ most ∧ most ≤ 256
  · have e1 : (decide (1 ≤ most) && decide (most ≤ 256)) = true := by simp [a1.1, a1.2]
    by_cases a2 : 1 ≤ each ∧ each ≤ most
    · have e2 : (decide (1 ≤ each) && decide (each ≤ most)) = true := by simp [a2.1, a2.2]
      have e3 : (decide (1 ≤ pat) && decide (pat ≤ 1048576)) = false := by
        rw [Bool.and_eq_false_iff, decide_eq_false_iff_not, decide_eq_false_iff_not]; omega
      clear h a1 a2
      go_enter Tryz.func27, Tryz.ntmps27
      go_wp2_with fail
      refine (flWithin _ _ _ _).mono ?_; rw [e1]; rintro e w' ⟨rfl, rfl⟩
      go_wp2_with fail
      refine (flWithin _ _ _ _).mono ?_; rw [e2]; rintro e w' ⟨rfl, rfl⟩
      go_wp2_with fail
      refine (flWithin _ _ _ _).mono ?_; rw [e3]; rintro e w' ⟨rfl, rfl⟩
      go_wp2_with fail
      go_ret2
      exact ⟨rfl, rfl⟩
    · have e2 : (decide (1 ≤ each) && decide (each ≤ most)) = false := by
        rw [Bool.and_eq_false_iff, decide_eq_false_iff_not, decide_eq_false_iff_not]; omega
      clear h a1 a2
      go_enter Tryz.func27, Tryz.ntmps27
      go_wp2_with fail
      refine (flWithin _ _ _ _).mono ?_; rw [e1]; rintro e w' ⟨rfl, rfl⟩
      go_wp2_with fail
      refine (flWithin _ _ _ _).mono ?_; rw [e2]; rintro e w' ⟨rfl, rfl⟩
      go_wp2_with fail
      go_ret2
      exact ⟨rfl, rfl⟩
  · have e1 : (decide (1 ≤ most) && decide (most ≤ 256)) = false := by
      rw [Bool.and_eq_false_iff, decide_eq_false_iff_not, decide_eq_false_iff_not]; omega
    clear h a1
    go_enter Tryz.func27, Tryz.ntmps27
    go_wp2_with fail
    refine (flWithin _ _ _ _).mono ?_; rw [e1]; rintro e w' ⟨rfl, rfl⟩
    go_wp2_with fail
    go_ret2
    exact ⟨rfl, rfl⟩

/-- What the table has of a piece. -/
def rqAt (ks : List (Int × Rq)) (k : Int) : Value := ((lkL ks k).map (rqv k)).getD rq0
theorem rqAt_agg (ks : List (Int × Rq)) (k : Int) : ∃ a b c : Int, rqAt ks k = .agg #[.int .i64 a, .int .i64 b, .int .i64 c] := by
  unfold rqAt
  cases lkL ks k with
  | none => exact ⟨0, 0, 0, rfl⟩
  | some r => exact ⟨r.p, k, r.t, rfl⟩
set_option maxRecDepth 100000 in
set_option maxHeartbeats 400000 in
theorem flOf (k : Int) (b M : Nat) (most each pat : Int) (ks : List (Int × Rq)) (w : World) (hk : I64 k) (h : TB w b M most each pat ks) :
    Calls Tryz.prog 70 #[.pointer (some ⟨b, 0, none⟩), .int .i64 k] w fun e w' => e = .returned (.tuple #[rqAt ks k, .bool (lkL ks k).isSome]) ∧ Mod (fun _ => False) w w' := by
  have c3 : w.cell? ⟨b, 3, none⟩ = some (.map (some M)) := h.head.cell 3
  have hl : ∀ o, (Instr.lookup 112 (.map (some M)) (.int .i64 k) true).run Tryz.prog (w.alloc o) = .ok (.tuple #[rqAt ks k, .bool (lkL ks k).isSome]) (w.alloc o) := by
    intro o
    have := (h.map.alloc o).lookOk Tryz.underlying3 Tryz.underlying112 (zeroRq _) hk
    rw [lk_mpV] at this
    rw [this]
    unfold rqAt
    cases lkL ks k <;> rfl
  obtain ⟨x, y, z, hx⟩ := rqAt_agg ks k
  have hlt := h.lt
  rw [hx] at hl ⊢
  clear h hx
  go_enter Tryz.func70, Tryz.ntmps70
  go_wp2_with fail
  exact bodyPost_ret (v := .tuple #[.agg #[.int .i64 x, .int .i64 y, .int .i64 z], .bool (lkL ks k).isSome]) (by simp [results, Tryz.results70, go_sem]) rfl ⟨rfl, ((Mod.refl _ w).alloc _).alloc _⟩

/-- How many a peer was asked for. -/
def many (ks : List (Int × Rq)) (p : Int) : Nat := (ks.filter fun q => q.2.p == p).length
theorem many_le (ks : List (Int × Rq)) (p : Int) : many ks p ≤ ks.length := List.length_filter_le _ _
theorem many_del (p x : Int) (r : Rq) : ∀ {ks : List (Int × Rq)}, Rising ks → (x, r) ∈ ks → many ks p = many (delL ks x) p + if r.p = p then 1 else 0
  | [], _, h => by simp at h
  | q :: t, hr, h => by
    obtain ⟨h1, h2⟩ := List.pairwise_cons.1 hr
    by_cases e : q.1 = x
    · have hq : q = (x, r) := by
        rcases List.mem_cons.1 h with h | h
        · exact h.symm
        · have := h1 _ h
          simp only at this
          omega
      have hd : delL (q :: t) x = t := by
        have : delL t x = t := by
          unfold delL
          rw [List.filter_eq_self]
          intro y hy
          have := h1 y hy
          simp
          omega
        unfold delL at this ⊢
        rw [List.filter_cons, if_neg (by simp [e]), this]
      rw [hd, hq]
      unfold many
      rw [List.filter_cons]
      by_cases hp : r.p = p <;> simp [hp]
    · have ht : (x, r) ∈ t := by
        rcases List.mem_cons.1 h with h | h
        · exact absurd (by rw [← h]) e
        · exact h
      have hd : delL (q :: t) x = q :: delL t x := by
        unfold delL
        rw [List.filter_cons, if_pos (by simpa using e)]
      have ih := many_del p x r h2 ht
      rw [hd]
      unfold many at ih ⊢
      rw [List.filter_cons, List.filter_cons]
      by_cases hp : (q.2.p == p) = true
      · rw [if_pos hp, if_pos hp, List.length_cons, List.length_cons, ih]; omega
      · rw [if_neg hp, if_neg hp, ih]
theorem mem_mpV {α : Type} {f : Int → α → Value} {ks : List (Int × α)} {x : Int} {c : Value} (h : (x, c) ∈ mpV f ks) : ∃ r, (x, r) ∈ ks ∧ c = f x r := by
  obtain ⟨q, hq, e⟩ := List.mem_map.1 h
  obtain ⟨k, r⟩ := q
  simp only [Prod.mk.injEq] at e
  obtain ⟨rfl, rfl⟩ := e
  exact ⟨r, hq, rfl⟩

set_option maxRecDepth 100000 in
set_option maxHeartbeats 1000000 in
theorem flMany (p : Int) (b M : Nat) (most each pat : Int) (ks : List (Int × Rq)) (w : World) (h : TB w b M most each pat ks) (hlen : ks.length ≤ 100000) :
    Calls Tryz.prog 82 #[.pointer (some ⟨b, 0, none⟩), .int .i64 p] w fun e w' => e = .returned (.int .i64 (many ks p)) ∧ Mod (fun _ => False) w w' := by
  have c3 : w.cell? ⟨b, 3, none⟩ = some (.map (some M)) := h.head.cell 3
  have hml := many_le ks p
  have hM := h.lt
  have hri := h.rising
  have HM := Lib.hid h.map
  have HRI := Lib.hid hri
  clear h hri
  go_enter Tryz.func82, Tryz.ntmps82
  go_wp2_with (at_range; refine range_start rfl _ rfl Tryz.underlying3 Tryz.underlying112 rfl HM.out ?_; intro w0 hr0 m0 z0)
  obtain ⟨B, hB⟩ : ∃ B, B = w.heap.size := ⟨_, rfl⟩
  rw [← hB] at hr0 hM ⊢
  have HR0 := Lib.hid hr0
  have HB := Lib.hid hB
  clear hr0 c3 hB z0
  go_frame
  go_loopw [5] (fun v wr => ∃ (c : Nat) (td : List (Int × Rq)), v = .int .i64 c ∧ c ≤ ks.length ∧ Hid (c + many td p = many ks p) ∧ Hid (Rising td) ∧ Hid (IRange Tryz.prog 3 wr M B (mpV rqv ks) (mpV rqv td)) ∧ Mod (· = B) w0 wr) (fun _ wr => wr.rangeLeft M B)
  case atStart => exact ⟨0, ks, rfl, Nat.zero_le _, Nat.zero_add _, HRI, HR0, Mod.refl _ _⟩
  case round =>
    obtain ⟨c, td, rfl, hc, hsum, hrt, hrg, hm⟩ := hrel
    go_wp2_with (at_next; refine range_next rfl _ rfl Tryz.underlying3 rfl hrg.out ?_ ?_)
    · intro hnil
      have htd : td = [] := by simpa [mpV] using hnil
      have hfin : c = many ks p := by have := hsum.out; rw [htd] at this; exact this
      have HF := Lib.hid hfin
      clear hnil htd hfin
      go_wp2_with fail
      go_ret
      exact ⟨by rw [HF.out]; rfl, m0.new hm (by intro i hi; have := HB.out; omega)⟩
    · intro x v w1 hx hmem hmem2 hrg1 hlt hm1 hz1 hen
      obtain ⟨r, hr, rfl⟩ := mem_mpV hmem
      rw [del_mpV] at hrg1
      have hdel := many_del p x r hrt.out hr
      have hrt1 := rising_del hrt.out x
      have hen' := hen
      unfold rqv at hen'
      have HS := Lib.hid hsum.out
      have HD := Lib.hid hdel
      have HRG := Lib.hid hrg1
      have HRT := Lib.hid hrt1
      have HLT := Lib.hid hlt
      have hmm := hm.trans hm1
      have hcl : c + 1 ≤ ks.length ∨ r.p ≠ p := by
        by_cases e : r.p = p
        · rw [if_pos e] at hdel
          have := hsum.out
          exact .inl (by omega)
        · exact .inr e
      unfold rqv
      clear hmem hmem2 hrg1 hlt hdel hrt1 hen hm hm1 hz1 hr
      have ma : Mod (fun _ => False) w1 (w1.alloc (.cells #[.int .i64 r.p, .int .i64 x, .int .i64 r.t] 42)) := (Mod.refl _ w1).alloc _
      have HRG2 := Lib.hid (HRG.out.new ma)
      have HL2 := Lib.hid (HRG.out.left ma)
      by_cases e : r.p = p
      · have e' : (r.p == p) = true := by simpa using e
        have hc1 : c + 1 ≤ ks.length := by rcases hcl with h | h; exact h; exact absurd e h
        have hd1 := HD.out
        rw [if_pos e] at hd1
        have HSUM := Lib.hid (show c + 1 + many (delL td x) p = many ks p by have := HS.out; omega)
        clear hd1 e hcl ma
        go_wp2_with fail
        exact ⟨⟨c + 1, delL td x, by go_num, hc1, HSUM, HRT, HRG2, hmm.alloc _⟩, by rw [HL2.out]; exact HLT.out⟩
      · have e' : (r.p == p) = false := by simpa using e
        have hd1 := HD.out
        rw [if_neg e] at hd1
        have HSUM := Lib.hid (show c + many (delL td x) p = many ks p by have := HS.out; omega)
        clear hd1 e hcl ma
        go_wp2_with fail
        exact ⟨⟨c, delL td x, rfl, hc, HSUM, HRT, HRG2, hmm.alloc _⟩, by rw [HL2.out]; exact HLT.out⟩

set_option maxRecDepth 100000 in
set_option maxHeartbeats 400000 in
theorem flDoneNo (k : Int) (b M : Nat) (most each pat : Int) (ks : List (Int × Rq)) (w : World) (hk : I64 k) (h : TB w b M most each pat ks) (hno : lkL ks k = none) :
    Calls Tryz.prog 71 #[.pointer (some ⟨b, 0, none⟩), .int .i64 k] w fun e w' => e = .returned (.tuple #[rq0, .int .i64 4]) ∧ Mod (fun _ => False) w w' := by
  have c3 : w.cell? ⟨b, 3, none⟩ = some (.map (some M)) := h.head.cell 3
  have hl : ∀ o, (Instr.lookup 112 (.map (some M)) (.int .i64 k) true).run Tryz.prog (w.alloc o) = .ok (.tuple #[rq0, .bool false]) (w.alloc o) := by
    intro o
    have := (h.map.alloc o).lookOk Tryz.underlying3 Tryz.underlying112 (zeroRq _) hk
    rw [lk_mpV, hno] at this
    exact this
  have hlt := h.lt
  have hz := zeroRq
  clear h hno
  go_enter Tryz.func71, Tryz.ntmps71
  go_wp2_with fail
  exact bodyPost_ret (v := .tuple #[.agg #[.int .i64 0, .int .i64 0, .int .i64 0], .int .i64 4]) (by simp [results, Tryz.results71, go_sem]) rfl ⟨rfl, by first | exact (((Mod.refl _ w).alloc _).alloc _) | exact (((Mod.refl _ w).alloc _).alloc _).setCell (.inr (by simp)) _⟩
end Go.Proofs.YtjmfhcliggjdgaaGreatDoor.Fl

/- Package flight: Done, Ask; no condition. -/
namespace Go.Proofs.YtjmfhcliggjdgaaGreatDoor.Fl
open Go Go.RowKit

set_option maxRecDepth 100000 in
set_option maxHeartbeats 1000000 in
theorem flDoneYes (k : Int) (r : Rq) (b M : Nat) (most each pat : Int) (ks : List (Int × Rq)) (w : World) (hk : I64 k) (h : TB w b M most each pat ks) (hyes : lkL ks k = some r) :
    Calls Tryz.prog 71 #[.pointer (some ⟨b, 0, none⟩), .int .i64 k] w fun e w' => e = .returned (.tuple #[rqv k r, .int .i64 0]) ∧ TB w' b M most each pat (delL ks k) ∧ Mod (· = M) w w' := by
  have c3 : w.cell? ⟨b, 3, none⟩ = some (.map (some M)) := h.head.cell 3
  have hl : ∀ o, (Instr.lookup 112 (.map (some M)) (.int .i64 k) true).run Tryz.prog (w.alloc o) = .ok (.tuple #[.agg #[.int .i64 r.p, .int .i64 k, .int .i64 r.t], .bool true]) (w.alloc o) := by
    intro o
    have := (h.map.alloc o).lookOk Tryz.underlying3 Tryz.underlying112 (zeroRq _) hk
    rw [lk_mpV, hyes] at this
    exact this
  have hlt := h.lt
  have hz := zeroRq
  obtain ⟨w3, hrun, him, hm3, hz3⟩ := ((h.map.alloc (.cells #[.int .i64 0, .int .i64 0, .int .i64 0] 42)).alloc (.cells #[.int .i64 r.p, .int .i64 k, .int .i64 r.t] 42)).del Tryz.underlying3 Tryz.underlying112 0 hk
  rw [del_mpV] at him
  have hA := ((Blk.new w #[.int .i64 0, .int .i64 0, .int .i64 0] 42).alloc (.cells #[.int .i64 r.p, .int .i64 k, .int .i64 r.t] 42)).mod hm3 (by show ¬ w.heap.size = M; omega)
  have hX := (Blk.new (w.alloc (.cells #[.int .i64 0, .int .i64 0, .int .i64 0] 42)) #[.int .i64 r.p, .int .i64 k, .int .i64 r.t] 42).mod hm3 (by show ¬ (w.alloc _).heap.size = M; simp; omega)
  have hs : (w.alloc (.cells #[.int .i64 0, .int .i64 0, .int .i64 0] 42)).heap.size = w.heap.size + 1 := by simp
  rw [hs] at hX
  have a0 := hA.cell 0; have a1 := hA.cell 1; have a2 := hA.cell 2
  have f0 := hA.frozen 0; have f1 := hA.frozen 1; have f2 := hA.frozen 2
  have d0 : (w3.setCell ⟨w.heap.size, 0, none⟩ (.int .i64 r.p)).cell? ⟨w.heap.size, 0, none⟩ = some (.int .i64 r.p) := (hA.set 0 _).cell 0
  have d1 : ((w3.setCell ⟨w.heap.size, 0, none⟩ (.int .i64 r.p)).setCell ⟨w.heap.size, 1, none⟩ (.int .i64 k)).cell? ⟨w.heap.size, 1, none⟩ = some (.int .i64 k) := ((hA.set 0 _).set 1 _).cell 1
  have d2 : (((w3.setCell ⟨w.heap.size, 0, none⟩ (.int .i64 r.p)).setCell ⟨w.heap.size, 1, none⟩ (.int .i64 k)).setCell ⟨w.heap.size, 2, none⟩ (.int .i64 r.t)).cell? ⟨w.heap.size, 2, none⟩ = some (.int .i64 r.t) := (((hA.set 0 _).set 1 _).set 2 _).cell 2
  have D0 := Lib.hid d0; have D1 := Lib.hid d1; have D2 := Lib.hid d2
  clear d0 d1 d2
  have x0 := hX.cell 0; have x1 := hX.cell 1; have x2 := hX.cell 2
  have hm : Mod (· = M) w w3 := (((Mod.refl (· = M) w).alloc _).alloc _).trans hm3
  have hT : TB w3 b M most each pat (delL ks k) := ⟨h.head.mod hm (fun e => h.ne e.symm), him, h.ne⟩
  have HT := Lib.hid hT
  have HM := Lib.hid hm
  have hB : w.heap.size < w3.heap.size := hA.lt
  clear h hyes hA hX him hm3 hm hT hs hz3
  go_enter Tryz.func71, Tryz.ntmps71
  go_wp2_with fail
  refine bodyPost_ret (v := .tuple #[.agg #[.int .i64 r.p, .int .i64 k, .int .i64 r.t], .int .i64 0]) (by simp [results, Tryz.results71, go_sem, D0.out, D1.out, D2.out]) rfl ⟨rfl, ?_, ?_⟩
  · have hs := ((Mod.refl (fun i => i = w.heap.size) w3).setCell (p := ⟨w.heap.size, 0, none⟩) (.inl rfl) (.int .i64 r.p)).setCell (p := ⟨w.heap.size, 1, none⟩) (.inl rfl) (.int .i64 k)
    exact HT.out.mod (hs.setCell (p := ⟨w.heap.size, 2, none⟩) (.inl rfl) (.int .i64 r.t)) (by show ¬ b = w.heap.size; omega) (by show ¬ M = w.heap.size; omega)
  · exact (((HM.out.setCell (.inr (Nat.le_refl _)) _).setCell (.inr (Nat.le_refl _)) _).setCell (.inr (Nat.le_refl _)) _)

/-- A load whose cell every stage has, though a call of the region makes new memory. -/
theorem reg_load0 {P : Program} {ops : Array Oper} {S : World → Prop} {ov : List (Nat × Nat)} {rd : List FuncId} {Q : World → Act → Prop} {i : Nat} {o : Oper} {rest : List Oper} {w : World} {a : Act}
    (hk : kd ov rd i o = 0) (hw : Region.wanted o (yielded ops a.tmps) = true) (v : Value) (t : TypeId) (x : Operand) (p : Addr) (ho : o.op = .load t x) (hx : a.eval x = .pointer (some p)) (ht : ∀ w, (isAgg t).run P w = .ok false w) (hc : ∀ w, S w → w.cell? p = some v)
    (h : wpReg P ops S ov rd Q (i + 1) rest w (a.put o.dst v)) : wpReg P ops S ov rd Q i (o :: rest) w a := by
  refine reg_any hk fun K hK => ?_
  unfold qOf
  rw [if_pos hw]
  refine ⟨v, fun w' hs => ?_, hK _ _ h⟩
  simp [execOp, ho, hx, Instr.loadAt, Instr.sureAddr, loadVar, load, Sem.run, hc w' hs, ht, Result.andThen, valUpon]

/-- What Ask answers. -/
def askE (most each : Int) (ks : List (Int × Rq)) (p k t : Int) : Int :=
  if ¬ (0 ≤ p ∧ p ≤ 65536 ∧ 0 ≤ k ∧ k ≤ 1023 ∧ 0 ≤ t ∧ t ≤ 1099511627776) then 1
  else if (lkL ks k).isSome then 5
  else if most ≤ (ks.length : Int) ∨ each ≤ (many ks p : Int) then 3
  else 0
/-- What Ask leaves. -/
def askK (most each : Int) (ks : List (Int × Rq)) (p k t : Int) : List (Int × Rq) := if askE most each ks p k t = 0 then putL ks k ⟨p, t⟩ else ks

set_option maxRecDepth 100000 in
set_option maxHeartbeats 2000000 in
theorem flAsk (p k t : Int) (b M : Nat) (most each pat : Int) (ks : List (Int × Rq)) (w : World) (hk : I64 k) (h : TB w b M most each pat ks) (hlen : ks.length ≤ 100000) :
    Calls Tryz.prog 48 #[.pointer (some ⟨b, 0, none⟩), .int .i64 p, .int .i64 k, .int .i64 t] w fun e w' => e = .returned (.int .i64 (askE most each ks p k t)) ∧ TB w' b M most each pat (askK most each ks p k t) ∧ Mod (· = M) w w' := by
  have c3 : w.cell? ⟨b, 3, none⟩ = some (.map (some M)) := h.head.cell 3
  obtain ⟨x, y, z, hx⟩ := rqAt_agg ks k
  have hl : (Instr.lookup 112 (.map (some M)) (.int .i64 k) true).run Tryz.prog w = .ok (.tuple #[.agg #[.int .i64 x, .int .i64 y, .int .i64 z], .bool (lkL ks k).isSome]) w := by
    have := h.map.lookOk Tryz.underlying3 Tryz.underlying112 (zeroRq _) hk
    rw [lk_mpV] at this
    rw [this, ← hx]
    unfold rqAt
    cases lkL ks k <;> rfl
  have hlt := h.lt
  have H := Lib.hid h
  have ma : Mod (fun _ => False) w (w.alloc (.cells #[.int .i64 x, .int .i64 y, .int .i64 z] 42)) := (Mod.refl _ w).alloc _
  have H1 := Lib.hid (h.new ma)
  have MA := Lib.hid (ma.mono (S' := (· = M)) (fun _ _ h => h.elim))
  have HK := Lib.hid hk
  clear h hx ma hk
  by_cases hin : 0 ≤ p ∧ p ≤ 65536 ∧ 0 ≤ k ∧ k ≤ 1023 ∧ 0 ≤ t ∧ t ≤ 1099511627776
  · obtain ⟨i1, i2, i3, i4, i5, i6⟩ := hin
    have e1 : (decide (0 ≤ p) && decide (p ≤ 65536)) = true := by simp [i1, i2]
    have e2 : (decide (0 ≤ k) && decide (k ≤ 1023)) = true := by simp [i3, i4]
    have e3 : (decide (0 ≤ t) && decide (t ≤ 1099511627776)) = true := by simp [i5, i6]
    cases hthere : (lkL ks k).isSome with
    | true =>
      have hE : askE most each ks p k t = 5 := by unfold askE; rw [if_neg (by simp; omega), if_pos hthere]
      have hK : askK most each ks p k t = ks := by unfold askK; rw [hE]; rfl
      rw [hE, hK]
      rw [hthere] at hl
      clear hE hK hthere i1 i2 i3 i4 i5 i6
      go_enter Tryz.func48, Tryz.ntmps48
      go_wp2_with fail
      refine (flWithin _ _ _ _).mono ?_; rw [e1]; rintro e w' ⟨rfl, rfl⟩
      go_wp2_with fail
      refine (flWithin _ _ _ _).mono ?_; rw [e2]; rintro e w' ⟨rfl, rfl⟩
      go_wp2_with fail
      refine (flWithin _ _ _ _).mono ?_; rw [e3]; rintro e w' ⟨rfl, rfl⟩
      go_wp2_with fail
      go_ret
      exact ⟨rfl, H1.out, MA.out⟩
    | false =>
      obtain ⟨w1, hw1⟩ : ∃ w1, w1 = w.alloc (.cells #[.int .i64 x, .int .i64 y, .int .i64 z] 42) := ⟨_, rfl⟩
      have hml := many_le ks p
      have hE : askE most each ks p k t = if most ≤ (ks.length : Int) ∨ each ≤ (many ks p : Int) then 3 else 0 := by
        unfold askE; rw [if_neg (by simp; omega), if_neg (by simp [hthere])]
      have HE := Lib.hid hE
      rw [hthere] at hl
      clear hE hthere i1 i2 i3 i4 i5 i6
      rw [← hw1] at H1 MA
      have c0 : w1.cell? ⟨b, 0, none⟩ = some (.int .i64 most) := H1.out.head.cell 0
      have c1 : w1.cell? ⟨b, 1, none⟩ = some (.int .i64 each) := H1.out.head.cell 1
      have c31 : w1.cell? ⟨b, 3, none⟩ = some (.map (some M)) := H1.out.head.cell 3
      have hln : ∀ n, (Builtin.len_ #[112] 3 #[.map (some M)]).run Tryz.prog (w1.drewN n) = .ok (.int .i64 (ks.length : Int)) (w1.drewN n) := by
        intro n
        have := (H1.out.drewN n).map.len (T := 112) Tryz.underlying112 3
        rw [len_mpV] at this
        exact this
      have HL := Lib.hid hlen
      by_cases hfull : most ≤ (ks.length : Int)
      · have hE3 : askE most each ks p k t = 3 := by rw [HE.out, if_pos (.inl hfull)]
        have hK3 : askK most each ks p k t = ks := by unfold askK; rw [hE3]; rfl
        rw [hE3, hK3]
        have ef : decide (most ≤ (ks.length : Int)) = true := by simpa using hfull
        clear hE3 hK3 HE hml hlen
        generalize (ks.length : Int) = L at hln hfull ef
        go_enter Tryz.func48, Tryz.ntmps48
        go_wp2_with fail
        refine (flWithin _ _ _ _).mono ?_; rw [e1]; rintro e w' ⟨rfl, rfl⟩
        go_wp2_with fail
        refine (flWithin _ _ _ _).mono ?_; rw [e2]; rintro e w' ⟨rfl, rfl⟩
        go_wp2_with fail
        refine (flWithin _ _ _ _).mono ?_; rw [e3]; rintro e w' ⟨rfl, rfl⟩
        rw [← hw1]
        clear hw1 hl c3 e1 e2 e3
        go_wp2_with fail
        refine wp_region2 [(17, 0)] [] (by kernel_rfl) (by kernel_rfl) ?_
        repeat (first | (refine reg_anyT (by rfl) (fun K hK => ?_); go_simp; refine hK _ _ ?_; clear hK K) | (refine reg_read (by rfl) (fun K hK => ?_); go_simp; refine hK _ _ ?_; clear hK K))
        refine reg_eff (by rfl) (fun rn K hK => ?_); go_simp; refine hK _ _ ?_; clear hK K
        repeat (first | (refine reg_anyT (by rfl) (fun K hK => ?_); go_simp; refine hK _ _ ?_; clear hK K) | (refine reg_read (by rfl) (fun K hK => ?_); go_simp; refine hK _ _ ?_; clear hK K))
        repeat (first | (refine reg_anyT (by rfl) (fun K hK => ?_); go_simp; refine hK _ _ ?_; clear hK K) | (refine reg_read (by rfl) (fun K hK => ?_); go_simp; refine hK _ _ ?_; clear hK K))
        refine reg_nil (fun nd => ?_)
        go_wp2_with fail
        go_ret
        exact ⟨rfl, (H1.out.drewN _).drewN _, (MA.out.drewN _).drewN _⟩
      · have ef : decide (most ≤ (ks.length : Int)) = false := by simpa using hfull
        by_cases hea : each ≤ (many ks p : Int)
        · have hE3 : askE most each ks p k t = 3 := by rw [HE.out, if_pos (.inr hea)]
          have hK3 : askK most each ks p k t = ks := by unfold askK; rw [hE3]; rfl
          rw [hE3, hK3]
          have eg : decide (each ≤ (many ks p : Int)) = true := by simpa using hea
          clear hE3 hK3 HE hml hlen
          generalize (ks.length : Int) = L at hln hfull ef
          go_enter Tryz.func48, Tryz.ntmps48
          go_wp2_with fail
          refine (flWithin _ _ _ _).mono ?_; rw [e1]; rintro e w' ⟨rfl, rfl⟩
          go_wp2_with fail
          refine (flWithin _ _ _ _).mono ?_; rw [e2]; rintro e w' ⟨rfl, rfl⟩
          go_wp2_with fail
          refine (flWithin _ _ _ _).mono ?_; rw [e3]; rintro e w' ⟨rfl, rfl⟩
          rw [← hw1]
          clear hw1 hl c3 e1 e2 e3
          go_wp2_with fail
          obtain ⟨S, hS⟩ : ∃ S : World → Prop, S = fun w' => w'.cell? ⟨b, 1, none⟩ = some (.int .i64 each) := ⟨_, rfl⟩
          refine wp_regionS [(17, 0)] [] S (by kernel_rfl) (by kernel_rfl) (by subst hS; intro n; exact c1) ?_
          repeat (first | (refine reg_anyT (by rfl) (fun K hK => ?_); go_simp; refine hK _ _ ?_; clear hK K) | (refine reg_read (by rfl) (fun K hK => ?_); go_simp; refine hK _ _ ?_; clear hK K))
          refine reg_effS (by rfl) (fun rn K hK => ?_); go_simp
          refine (flMany _ _ _ _ _ _ _ _ (H1.out.drewN rn) HL.out).mono ?_; rintro e w2 ⟨rfl, y1⟩
          refine hK _ _ ⟨fun m => by subst hS; exact (H1.out.new y1.undrew).head.cell 1, ?_⟩; clear hK K
          repeat (first | (refine reg_anyT (by rfl) (fun K hK => ?_); go_simp; refine hK _ _ ?_; clear hK K) | (refine reg_read (by rfl) (fun K hK => ?_); go_simp; refine hK _ _ ?_; clear hK K))
          refine reg_load0 (by rfl) (by rfl) (.int .i64 each) _ _ _ rfl rfl Tryz.isAgg3 (by subst hS; exact fun _ h => h) ?_
          repeat (first | (refine reg_anyT (by rfl) (fun K hK => ?_); go_simp; refine hK _ _ ?_; clear hK K) | (refine reg_read (by rfl) (fun K hK => ?_); go_simp; refine hK _ _ ?_; clear hK K))
          refine reg_nil (fun nd => ?_)
          go_wp2_with fail
          go_ret
          exact ⟨rfl, (H1.out.new y1.undrew).drewN _, (MA.out.trans (y1.undrew.mono (fun _ _ h => h.elim))).drewN _⟩
        · have hE0 : askE most each ks p k t = 0 := by rw [HE.out, if_neg (by simp only [not_or]; exact ⟨hfull, hea⟩)]
          have hK0 : askK most each ks p k t = putL ks k ⟨p, t⟩ := by unfold askK; rw [if_pos hE0]
          rw [hE0, hK0]
          have eg : decide (each ≤ (many ks p : Int)) = false := by simpa using hea
          clear hE0 hK0 HE hml hlen
          generalize (ks.length : Int) = L at hln hfull ef
          go_enter Tryz.func48, Tryz.ntmps48
          go_wp2_with fail
          refine (flWithin _ _ _ _).mono ?_; rw [e1]; rintro e w' ⟨rfl, rfl⟩
          go_wp2_with fail
          refine (flWithin _ _ _ _).mono ?_; rw [e2]; rintro e w' ⟨rfl, rfl⟩
          go_wp2_with fail
          refine (flWithin _ _ _ _).mono ?_; rw [e3]; rintro e w' ⟨rfl, rfl⟩
          rw [← hw1]
          clear hw1 hl c3 e1 e2 e3
          go_wp2_with fail
          obtain ⟨S, hS⟩ : ∃ S : World → Prop, S = fun w' => w'.cell? ⟨b, 1, none⟩ = some (.int .i64 each) := ⟨_, rfl⟩
          refine wp_regionS [(17, 0)] [] S (by kernel_rfl) (by kernel_rfl) (by subst hS; intro n; exact c1) ?_
          repeat (first | (refine reg_anyT (by rfl) (fun K hK => ?_); go_simp; refine hK _ _ ?_; clear hK K) | (refine reg_read (by rfl) (fun K hK => ?_); go_simp; refine hK _ _ ?_; clear hK K))
          refine reg_effS (by rfl) (fun rn K hK => ?_); go_simp
          refine (flMany _ _ _ _ _ _ _ _ (H1.out.drewN rn) HL.out).mono ?_; rintro e w2 ⟨rfl, y1⟩
          refine hK _ _ ⟨fun m => by subst hS; exact (H1.out.new y1.undrew).head.cell 1, ?_⟩; clear hK K
          repeat (first | (refine reg_anyT (by rfl) (fun K hK => ?_); go_simp; refine hK _ _ ?_; clear hK K) | (refine reg_read (by rfl) (fun K hK => ?_); go_simp; refine hK _ _ ?_; clear hK K))
          refine reg_load0 (by rfl) (by rfl) (.int .i64 each) _ _ _ rfl rfl Tryz.isAgg3 (by subst hS; exact fun _ h => h) ?_
          repeat (first | (refine reg_anyT (by rfl) (fun K hK => ?_); go_simp; refine hK _ _ ?_; clear hK K) | (refine reg_read (by rfl) (fun K hK => ?_); go_simp; refine hK _ _ ?_; clear hK K))
          refine reg_nil (fun nd => ?_)
          have H3 := Lib.hid ((H1.out.new y1.undrew).drewN nd)
          have M3 := Lib.hid ((MA.out.trans (y1.undrew.mono (fun _ _ h => h.elim))).drewN nd)
          generalize w2.drewN nd = w3 at H3 M3 ⊢
          have c33 : w3.cell? ⟨b, 3, none⟩ = some (.map (some M)) := H3.out.head.cell 3
          obtain ⟨w4, hrun, him, hm4, hz4⟩ := H3.out.map.put Tryz.underlying3 Tryz.underlying112 (by rw [len_mpV]; have := HL.out; unfold maxLen; omega) HK.out (rqv k ⟨p, t⟩)
          rw [put_mpV] at him
          have H4 : TB w4 b M most each pat (putL ks k ⟨p, t⟩) := ⟨H3.out.head.mod hm4 (fun e => H3.out.ne e.symm), him, H3.out.ne⟩
          have H4' := Lib.hid H4
          have M4 := Lib.hid (M3.out.trans hm4)
          unfold rqv at hrun
          clear y1 c0 c1 c31 him hm4 hz4 H4 hln
          go_wp2_with fail
          go_ret
          exact ⟨rfl, H4'.out, M4.out⟩
  · have hE : askE most each ks p k t = 1 := by unfold askE; rw [if_pos hin]
    have hK : askK most each ks p k t = ks := by unfold askK; rw [hE]; rfl
    rw [hE, hK]
    clear hE hK
    by_cases a1 : 0 ≤ p ∧ p ≤ 65536
    · have e1 : (decide (0 ≤ p) && decide (p ≤ 65536)) = true := by simp [a1.1, a1.2]
      by_cases a2 : 0 ≤ k ∧ k ≤ 1023
      · have e2 : (decide (0 ≤ k) && decide (k ≤ 1023)) = true := by simp [a2.1, a2.2]
        have e3 : (decide (0 ≤ t) && decide (t ≤ 1099511627776)) = false := by
          rw [Bool.and_eq_false_iff, decide_eq_false_iff_not, decide_eq_false_iff_not]; omega
        clear hin a1 a2
        go_enter Tryz.func48, Tryz.ntmps48
        go_wp2_with fail
        refine (flWithin _ _ _ _).mono ?_; rw [e1]; rintro e w' ⟨rfl, rfl⟩
        go_wp2_with fail
        refine (flWithin _ _ _ _).mono ?_; rw [e2]; rintro e w' ⟨rfl, rfl⟩
        go_wp2_with fail
        refine (flWithin _ _ _ _).mono ?_; rw [e3]; rintro e w' ⟨rfl, rfl⟩
        go_wp2_with fail
        go_ret
        exact ⟨rfl, H1.out, MA.out⟩
      · have e2 : (decide (0 ≤ k) && decide (k ≤ 1023)) = false := by
          rw [Bool.and_eq_false_iff, decide_eq_false_iff_not, decide_eq_false_iff_not]; omega
        clear hin a1 a2
        go_enter Tryz.func48, Tryz.ntmps48
        go_wp2_with fail
        refine (flWithin _ _ _ _).mono ?_; rw [e1]; rintro e w' ⟨rfl, rfl⟩
        go_wp2_with fail
        refine (flWithin _ _ _ _).mono ?_; rw [e2]; rintro e w' ⟨rfl, rfl⟩
        go_wp2_with fail
        go_ret
        exact ⟨rfl, H1.out, MA.out⟩
    · have e1 : (decide (0 ≤ p) && decide (p ≤ 65536)) = false := by
        rw [Bool.and_eq_false_iff, decide_eq_false_iff_not, decide_eq_false_iff_not]; omega
      clear hin a1
      go_enter Tryz.func48, Tryz.ntmps48
      go_wp2_with fail
      refine (flWithin _ _ _ _).mono ?_; rw [e1]; rintro e w' ⟨rfl, rfl⟩
      go_wp2_with fail
      go_ret
      exact ⟨rfl, H1.out, MA.out⟩
end Go.Proofs.YtjmfhcliggjdgaaGreatDoor.Fl

/- Package flight: All. -/
namespace Go.Proofs.YtjmfhcliggjdgaaGreatDoor.Fl
open Go Go.RowKit

def rqC (q : Int × Rq) : List Value := [.int .i64 q.2.p, .int .i64 q.1, .int .i64 q.2.t]
def rqL (ks : List (Int × Rq)) : List Value := ks.flatMap rqC
theorem rqL_take (ks : List (Int × Rq)) (k : Nat) (x : Int) (r : Rq) (h : ks[k]? = some (x, r)) : rqL (ks.take (k + 1)) = rqL (ks.take k) ++ [.int .i64 r.p, .int .i64 x, .int .i64 r.t] := by
  unfold rqL
  rw [List.take_add_one, h, List.flatMap_append]
  rfl
/-- What is handed back: a list of requests in new memory. -/
def RqsP (ks : List (Int × Rq)) (w : World) (e : Ending) (w' : World) : Prop := ∃ v, e = .returned v ∧ w'.ownsRow w.heap.size 42 3 v ks.length (rqL ks) ∧ Mod (fun _ => False) w w'
theorem infoRq : (Tryz.prog.info? 42).map (fun i => (i.zero, i.size, i.bytes)) = some (some rq0, 3, 24) := by kernel_rfl

set_option maxRecDepth 100000 in
set_option maxHeartbeats 1000000 in
theorem flAll (b M : Nat) (most each pat : Int) (ks : List (Int × Rq)) (w : World) (h : TB w b M most each pat ks) (hlen : ks.length ≤ 1000) (hI : ∀ q ∈ ks, I64 q.1) :
    Calls Tryz.prog 39 #[.pointer (some ⟨b, 0, none⟩)] w (RqsP ks w) := by
  have c3 : w.cell? ⟨b, 3, none⟩ = some (.map (some M)) := h.head.cell 3
  have hk := Tryz.maps_Keys_75 (some M) w
  have hs := Tryz.slices_Sorted_keys_75 M _ (toD (mpV rqv ks)) RV w h.map.owns (by rw [size_toD, len_mpV]; unfold maxLen; omega) (by rw [size_toD, len_mpV]; omega)
  have hr := h.map.rising
  have HK := Lib.hid hk
  have HS := Lib.hid hs
  have HR := Lib.hid hr
  have HT := Lib.hid h
  have HRI := Lib.hid h.rising
  have HI := Lib.hid hI
  clear h hk hs hr hI
  go_enter Tryz.func39, Tryz.ntmps39
  go_wp2_with fail
  refine HK.out.mono ?_; rintro e w1 ⟨rfl, rfl⟩
  go_wp2_with fail
  refine HS.out.mono ?_; rintro e w2 hq
  have hq2 := IntsP.of_sorted HR.out ((Mod.refl (fun _ => False) w).alloc _) hq
  obtain ⟨v, rfl, o, m⟩ := hq2
  rw [keys_mpV] at o
  clear hq
  have M2 := Lib.hid m
  obtain ⟨ol, o2⟩ := o
  have hkl : (keysL ks).length = ks.length := by simp [keysL]
  rw [hkl] at o2
  rcases o2 with ⟨rfl, hn⟩ | ⟨g, cap, cur, rfl, hg, hh, hcap, _, _, htk⟩
  · have hks : ks = [] := by simpa using hn
    subst hks
    clear ol hn m c3 hkl
    go_wp2_with fail
    go_loopw [3, 13] (fun v i wr => v = .slice none 0 0 ∧ i = .int .i64 0 ∧ wr = w2) (fun _ _ _ => 0)
    case atStart => exact ⟨rfl, rfl, rfl⟩
    case round =>
      obtain ⟨rfl, rfl, rfl⟩ := hrel
      go_wp2_with fail
      go_ret
      exact ⟨_, rfl, World.ownsRow_nil _ _ _ _, M2.out⟩
  · have hc : ∀ k x r, ks[k]? = some (x, r) → w2.cell? ⟨g, k, none⟩ = some (.int .i64 x) := by
      intro k x r hk
      have hlt : k < ks.length := (List.getElem?_eq_some_iff.1 hk).1
      have h1 := (show Blk w2 g cur _ from hh).cell k
      rw [h1, ← Array.getElem?_toList]
      have h2 := congrArg (fun l => l[k]?) htk
      simp only [List.getElem?_take] at h2
      rw [if_pos (by omega)] at h2
      rw [h2]
      simp [keysL, hk]
    have HC := Lib.hid hc
    have HG : Hid (g < w2.heap.size) := by show _ < _; exact (show Blk w2 g cur _ from hh).lt
    have hbd : ks.length ≤ cap := hcap
    clear ol hh hcap htk m c3 hc hg hkl
    go_wp2_with fail
    go_loopw [3, 13] (fun v i wr => ∃ k : Nat, i = .int .i64 k ∧ k ≤ ks.length ∧ Hid (wr.ownsRow w2.heap.size 42 3 v k (rqL (ks.take k))) ∧ Mod (fun _ => False) w2 wr) (fun _ i _ => ks.length - (intOf i).toNat)
    case atStart => exact ⟨0, rfl, Nat.zero_le _, World.ownsRow_nil _ _ _ _, Mod.refl _ _⟩
    case round =>
      obtain ⟨k, rfl, hk, hown, hm⟩ := hrel
      by_cases hlt : (k : Int) < ks.length
      · obtain ⟨⟨x, r⟩, hkr⟩ : ∃ q, ks[k]? = some q := ⟨_, List.getElem?_eq_getElem (by omega)⟩
        have hmem : (x, r) ∈ ks := List.mem_of_getElem? hkr
        have ck := hm.cell (HC.out k x r hkr) (fun h => h)
        have hT := (HT.out.new M2.out).new hm
        have hl : (Instr.lookup 112 (.map (some M)) (.int .i64 x) false).run Tryz.prog wr = .ok (.agg #[.int .i64 r.p, .int .i64 x, .int .i64 r.t]) wr := by
          have := hT.map.look Tryz.underlying3 Tryz.underlying112 (zeroRq _) (HI.out _ hmem)
          rw [lk_mpV, lk_of_mem HRI.out hmem] at this
          exact this
        have c3 : wr.cell? ⟨b, 3, none⟩ = some (.map (some M)) := hT.head.cell 3
        have HM := Lib.hid hm
        have HTK := Lib.hid (rqL_take ks k x r hkr)
        clear hT hmem hkr hm
        go_wp2_with (at_builtin; refine appK rfl (.tmp 17) (.tmp 24) 39 42 3 rfl Tryz.underlying39 infoRq rfl (by decide) _ _ _ #[.int .i64 r.p, .int .i64 x, .int .i64 r.t] rfl HM.out hown.out rfl rfl (by simp [Value.oneCell']) (by decide) (by omega) ?_; intro v' w' g1 g2 _)
        have G1 := Lib.hid g1
        clear g1
        go_wp2_with fail
        go_roundw
        case rel => exact ⟨k + 1, by go_num, by omega, by show World.ownsRow _ _ _ _ _ _ _; rw [HTK.out]; exact G1.out, g2⟩
        case measure => simp [intOf]; omega
      · have hkn : k = ks.length := by omega
        have hO := hown.out
        rw [hkn, List.take_length] at hO
        have HO := Lib.hid hO
        have HM := Lib.hid hm
        clear hkn hm hown hO
        go_wp2_with fail
        go_ret
        exact ⟨_, rfl, HO.out.mono M2.out.size, M2.out.trans HM.out⟩
end Go.Proofs.YtjmfhcliggjdgaaGreatDoor.Fl

/- Package flight: what Drop and Late ask of a request. -/
namespace Go.Proofs.YtjmfhcliggjdgaaGreatDoor.Fl
open Go Go.RowKit

set_option maxRecDepth 100000 in
set_option maxHeartbeats 1000000 in
theorem flDrop1 (p k t q : Int) (g : Nat) (w : World) (hc : w.cell? ⟨g, 0, none⟩ = some (.int .i64 q)) :
    Calls Tryz.prog 91 #[.agg #[.int .i64 p, .int .i64 k, .int .i64 t], .pointer (some ⟨g, 0, none⟩)] w fun e w' => e = .returned (.bool (p == q)) ∧ Mod (fun _ => False) w w' := by
  have hg : g < w.heap.size := World.block_lt_of_cell? w _ hc
  have hne : ¬ w.heap.size = g := by omega
  go_enter Tryz.func91, Tryz.ntmps91
  go_wp2_with fail
  go_ret
  exact ⟨rfl, (Mod.refl _ w).alloc _⟩

set_option maxRecDepth 100000 in
set_option maxHeartbeats 1000000 in
theorem flLate1 (p k t q : Int) (g g2 b M : Nat) (most each pat : Int) (ks : List (Int × Rq)) (w : World) (hc : w.cell? ⟨g, 0, none⟩ = some (.int .i64 q)) (hc2 : w.cell? ⟨g2, 0, none⟩ = some (.pointer (some ⟨b, 0, none⟩))) (h : TB w b M most each pat ks)
    (hq : 0 ≤ q ∧ q ≤ 1099511627776) (ht : 0 ≤ t ∧ t ≤ 1099511627776) :
    Calls Tryz.prog 88 #[.agg #[.int .i64 p, .int .i64 k, .int .i64 t], .pointer (some ⟨g, 0, none⟩), .pointer (some ⟨g2, 0, none⟩)] w fun e w' => e = .returned (.bool (decide (pat ≤ q - t))) ∧ Mod (fun _ => False) w w' := by
  have hg : g < w.heap.size := World.block_lt_of_cell? w _ hc
  have hg2 : g2 < w.heap.size := World.block_lt_of_cell? w _ hc2
  have c2 : w.cell? ⟨b, 2, none⟩ = some (.int .i64 pat) := h.head.cell 2
  have hlt := h.lt
  obtain ⟨d, hd⟩ : ∃ d, d = q - t := ⟨_, rfl⟩
  have hw : IntKind.i64.wrap (q - t) = d := by rw [hd]; unfold IntKind.wrap; simp [IntKind.bits, IntKind.signed]; omega
  rw [← hd]
  have m := (Mod.refl (fun _ => False) w).alloc (.cells #[.int .i64 p, .int .i64 k, .int .i64 t] 42)
  have HM := Lib.hid m
  have a1 := m.cell hc (fun h => h)
  have a2 := m.cell hc2 (fun h => h)
  have a3 := m.cell c2 (fun h => h)
  have a4 := (Blk.new w #[.int .i64 p, .int .i64 k, .int .i64 t] 42).cell 2
  clear h hd m
  go_enter Tryz.func88, Tryz.ntmps88
  go_wp2_with fail
  go_quiet (fail)
  go_wp2_with fail
  go_ret
  exact ⟨by simp, HM.out.drewN _⟩
end Go.Proofs.YtjmfhcliggjdgaaGreatDoor.Fl

/- Package flight: out. -/
namespace Go.Proofs.YtjmfhcliggjdgaaGreatDoor.Fl
open Go Go.RowKit

theorem owns_new {w w' : World} {base : Nat} {e : TypeId} {size : Nat} {v : Value} {n : Nat} {xs : List Value} (h : w.ownsRow base e size v n xs) (hm : Mod (fun _ => False) w w') : w'.ownsRow base e size v n xs := by
  obtain ⟨h1, h2⟩ := h
  rcases h2 with h2 | ⟨g, cap, cur, hv, hb, hh, rest⟩
  · exact ⟨h1, .inl h2⟩
  · exact ⟨h1, .inr ⟨g, cap, cur, hv, hb, (show Blk w g cur e from hh).mod hm (fun h => h), rest⟩⟩
theorem owns_mod {S : Nat → Prop} {w w' : World} {base : Nat} {e : TypeId} {size : Nat} {v : Value} {n : Nat} {xs : List Value} (h : w.ownsRow base e size v n xs) (hm : Mod S w w') (hS : ∀ i, base ≤ i → ¬ S i) : w'.ownsRow base e size v n xs := by
  obtain ⟨h1, h2⟩ := h
  rcases h2 with h2 | ⟨g, cap, cur, hv, hb, hh, rest⟩
  · exact ⟨h1, .inl h2⟩
  · exact ⟨h1, .inr ⟨g, cap, cur, hv, hb, (show Blk w g cur e from hh).mod hm (hS g hb), rest⟩⟩
theorem rqL_get : ∀ (ks : List (Int × Rq)) (k j : Nat) (x : Int) (r : Rq), ks[k]? = some (x, r) → j < 3 → (rqL ks)[k * 3 + j]? = (rqC (x, r))[j]?
  | [], k, j, x, r, h, hj => by simp at h
  | q :: t, 0, j, x, r, h, hj => by
    simp at h
    subst h
    show (rqC (x, r) ++ rqL t)[0 * 3 + j]? = _
    rw [Nat.zero_mul, Nat.zero_add, List.getElem?_append_left (by simpa [rqC] using hj)]
  | q :: t, k + 1, j, x, r, h, hj => by
    show (rqC q ++ rqL t)[(k + 1) * 3 + j]? = _
    rw [List.getElem?_append_right (by simp [rqC]; omega), show (k + 1) * 3 + j - (rqC q).length = k * 3 + j by simp [rqC]; omega]
    exact rqL_get t k j x r (by simpa using h) hj
/-- The map behind the first rows of l. -/
def leftL (φ : Int × Rq → Bool) (l ks : List (Int × Rq)) : List (Int × Rq) := l.foldl (fun ks q => if φ q then delL ks q.1 else ks) ks
theorem leftL_add (φ : Int × Rq → Bool) (l ks : List (Int × Rq)) (q : Int × Rq) : leftL φ (l ++ [q]) ks = if φ q then delL (leftL φ l ks) q.1 else leftL φ l ks := by
  unfold leftL
  rw [List.foldl_append]
  rfl
theorem leftL_filter (φ : Int × Rq → Bool) : ∀ (l ks : List (Int × Rq)), leftL φ l ks = ks.filter fun q => l.all fun x => !φ x || q.1 != x.1
  | [], ks => by
    rw [List.filter_eq_self.2 (by simp)]; rfl
  | y :: l, ks => by
    show leftL φ l (if φ y then delL ks y.1 else ks) = _
    rw [leftL_filter φ l]
    by_cases h : φ y = true
    · rw [if_pos h]
      unfold delL
      rw [List.filter_filter]
      refine List.filter_congr fun q _ => ?_
      by_cases e : q.1 = y.1 <;> simp [h, e]
    · rw [if_neg h]
      refine List.filter_congr fun q _ => ?_
      simp [h]
theorem leftL_all (φ : Int × Rq → Bool) (ks : List (Int × Rq)) (hr : Rising ks) : leftL φ ks ks = ks.filter fun q => !φ q := by
  rw [leftL_filter]
  refine List.filter_congr fun q hq => ?_
  cases h : φ q with
  | true =>
    simp only [Bool.not_true]
    rw [List.all_eq_false]
    exact ⟨q, hq, by simp [h]⟩
  | false =>
    simp only [Bool.not_false]
    rw [List.all_eq_true]
    intro x hx
    by_cases e : q.1 = x.1
    · have h1 := lk_of_mem hr (k := q.1) (v := q.2) hq
      have h2 := lk_of_mem hr (k := x.1) (v := x.2) hx
      rw [← e, h1] at h2
      have : q = x := Prod.ext e (Option.some.inj h2)
      rw [← this, h]; rfl
    · simp [e]
theorem filter_take (φ : Int × Rq → Bool) (ks : List (Int × Rq)) (k : Nat) (q : Int × Rq) (h : ks[k]? = some q) : (ks.take (k + 1)).filter φ = (ks.take k).filter φ ++ if φ q then [q] else [] := by
  rw [List.take_add_one, h, List.filter_append]
  cases hq : φ q <;> simp [hq]

set_option maxRecDepth 100000 in
set_option maxHeartbeats 1000000 in
theorem flOut (F : FuncId) (caps : Array Value) (φ : Int × Rq → Bool) (b M : Nat) (most each pat : Int) (ks : List (Int × Rq)) (w : World) (h : TB w b M most each pat ks) (hlen : ks.length ≤ 1000) (hI : ∀ q ∈ ks, I64 q.1)
    (hE : ∀ args w, (callFunc F args).run Tryz.prog w = .ok (.enter F args) w)
    (hF : ∀ (w' : World) (ks' : List (Int × Rq)) (k : Int) (r : Rq), TB w' b M most each pat ks' → Mod (· = M) w w' → (k, r) ∈ ks → Calls Tryz.prog F (#[.agg #[.int .i64 r.p, .int .i64 k, .int .i64 r.t]] ++ caps) w' fun e w'' => e = .returned (.bool (φ (k, r))) ∧ Mod (fun _ => False) w' w'') :
    Calls Tryz.prog 87 #[.pointer (some ⟨b, 0, none⟩), .func (.func F) #[] caps] w fun e w' => (∃ v, e = .returned v ∧ w'.ownsRow w.heap.size 42 3 v (ks.filter φ).length (rqL (ks.filter φ))) ∧ TB w' b M most each pat (ks.filter fun q => !φ q) ∧ Mod (· = M) w w' := by
  have H := Lib.hid h
  have HRI := Lib.hid h.rising
  have HI := Lib.hid hI
  have HF := Lib.hid hF
  clear h hI hF
  go_enter Tryz.func87, Tryz.ntmps87
  go_wp2_with fail
  refine (flAll _ _ _ _ _ _ _ H.out hlen HI.out).mono ?_; rintro e w2 ⟨v, rfl, o, m⟩
  obtain ⟨ol, o2⟩ := o
  have M2 := Lib.hid m
  rcases o2 with ⟨rfl, hn⟩ | ⟨g, cap, cur, rfl, hg, hh, hcap, _, _, htk⟩
  · have hks : ks = [] := by simpa using hn
    subst hks
    clear ol hn m
    go_wp2_with fail
    go_loopw [5, 11] (fun v i wr => v = .slice none 0 0 ∧ i = .int .i64 0 ∧ wr = w2) (fun _ _ _ => 0)
    case atStart => exact ⟨rfl, rfl, rfl⟩
    case round =>
      obtain ⟨rfl, rfl, rfl⟩ := hrel
      go_wp2_with fail
      go_ret
      exact ⟨⟨_, rfl, World.ownsRow_nil _ _ _ _⟩, H.out.new M2.out, M2.out.mono (fun _ _ h => h.elim)⟩
  · have hB := (show Blk w2 g cur _ from hh)
    have hc : ∀ (k : Nat) (x : Int) (r : Rq), ks[k]? = some (x, r) → w2.cell? ((⟨g, 0, none⟩ : Addr).add (k * 3)) = some (.int .i64 r.p) ∧ w2.cell? ⟨((⟨g, 0, none⟩ : Addr).add (k * 3)).block, ((⟨g, 0, none⟩ : Addr).add (k * 3)).off + 1, none⟩ = some (.int .i64 x) ∧ w2.cell? ⟨((⟨g, 0, none⟩ : Addr).add (k * 3)).block, ((⟨g, 0, none⟩ : Addr).add (k * 3)).off + 2, none⟩ = some (.int .i64 r.t) := by
      intro k x r hk
      have ea : (⟨g, 0, none⟩ : Addr).add (k * 3) = ⟨g, k * 3, none⟩ := by
        cases h : k * 3 with
        | zero => rfl
        | succ n => simp [Addr.add]
      have hlt : k < ks.length := (List.getElem?_eq_some_iff.1 hk).1
      have hgt : ∀ (j : Nat) (u : Value), j < 3 → (rqC (x, r))[j]? = some u → w2.cell? ⟨g, k * 3 + j, none⟩ = some u := by
        intro j u hj hu
        rw [hB.cell, ← Array.getElem?_toList]
        have h2 := congrArg (fun l => l[k * 3 + j]?) htk
        simp only [List.getElem?_take] at h2
        rw [if_pos (by omega)] at h2
        rw [h2, rqL_get ks k j x r hk hj, hu]
      rw [ea]
      exact ⟨hgt 0 _ (by decide) rfl, hgt 1 _ (by decide) rfl, hgt 2 _ (by decide) rfl⟩
    obtain ⟨X, hX⟩ : ∃ X : Addr, X = ⟨g, 0, none⟩ := ⟨_, rfl⟩
    have hXM : ∀ n j, ¬ (X.add n).block = M ∧ ¬ (⟨(X.add n).block, (X.add n).off + j, none⟩ : Addr).block = M := by
      intro n j
      have := H.out.lt.2
      have e : ((⟨g, 0, none⟩ : Addr).add n).block = g := by cases n <;> rfl
      subst hX
      constructor
      · rw [e]; omega
      · show ¬ ((⟨g, 0, none⟩ : Addr).add n).block = M
        rw [e]; omega
    rw [← hX] at hc ⊢
    have HC := Lib.hid hc
    have hbd : ks.length ≤ cap := hcap
    clear ol hh hcap htk m hc hg hB hX
    go_wp2_with fail
    go_loopw [5, 11] (fun v i wr => ∃ k : Nat, i = .int .i64 k ∧ k ≤ ks.length ∧ Hid (wr.ownsRow w2.heap.size 42 3 v ((ks.take k).filter φ).length (rqL ((ks.take k).filter φ))) ∧ Hid (TB wr b M most each pat (leftL φ (ks.take k) ks)) ∧ Mod (· = M) w2 wr) (fun _ i _ => ks.length - (intOf i).toNat)
    case atStart => exact ⟨0, rfl, Nat.zero_le _, World.ownsRow_nil _ _ _ _, H.out.new M2.out, Mod.refl _ _⟩
    case round =>
      obtain ⟨k, rfl, hk, hown, hT, hm⟩ := hrel
      by_cases hlt : (k : Int) < ks.length
      · obtain ⟨⟨x, r⟩, hkr⟩ : ∃ q, ks[k]? = some q := ⟨_, List.getElem?_eq_getElem (by omega)⟩
        have hmem : (x, r) ∈ ks := List.mem_of_getElem? hkr
        obtain ⟨p0, p1, p2⟩ := HC.out k x r hkr
        have q0 := hm.cell p0 (by exact (hXM _ 0).1)
        have q1 := hm.cell p1 (by exact (hXM _ 1).2)
        have q2 := hm.cell p2 (by exact (hXM _ 2).2)
        have HM := Lib.hid hm
        have HL := Lib.hid (leftL_add φ (ks.take k) ks (x, r))
        have HFT := Lib.hid (filter_take φ ks k (x, r) hkr)
        have HTK := Lib.hid (show ks.take (k + 1) = ks.take k ++ [(x, r)] by rw [List.take_add_one, hkr]; rfl)
        have hw0 := hT.out.lt
        have HME := Lib.hid hmem
        clear p0 p1 p2 hkr hm hmem
        go_wp2_with fail
        refine (HF.out _ _ x r (hT.out.new ((Mod.refl (fun _ => False) wr).alloc _)) (((M2.out.mono (fun _ _ h => h.elim)).trans HM.out).alloc _) HME.out).mono ?_; rintro e w3 ⟨rfl, m3⟩
        have m13 := ((Mod.refl (fun _ => False) wr).alloc (.cells #[.int .i64 r.p, .int .i64 x, .int .i64 r.t] 42)).trans m3
        have T3 := Lib.hid (hT.out.new m13)
        have O3 := Lib.hid (owns_new hown.out m13)
        have MM3 := Lib.hid (HM.out.trans (m13.mono (fun _ _ h => h.elim)))
        have B3 := (Blk.new wr #[.int .i64 r.p, .int .i64 x, .int .i64 r.t] 42).mod m3 (fun h => h)
        have b0 := B3.cell 0; have b1 := B3.cell 1; have b2 := B3.cell 2
        have B3H := Lib.hid B3
        clear B3 m3 m13 q0 q1 q2
        cases hφ : φ (x, r) with
        | false =>
          have hk1 : ks.length - (k + 1) < ks.length - k := by omega
          go_wp2_with fail
          refine ⟨⟨k + 1, by go_num, by omega, ?_, ?_, MM3.out⟩, by simp [intOf]; omega⟩
          · show World.ownsRow _ _ _ _ _ _ _
            rw [HFT.out, hφ]
            simpa using O3.out
          · show TB _ _ _ _ _ _ _
            rw [HTK.out, HL.out, hφ]
            exact T3.out
        | true =>
          have c3 : w3.cell? ⟨b, 3, none⟩ = some (.map (some M)) := T3.out.head.cell 3
          go_wp2_with fail
          refine wp_region2 [] [] (by kernel_rfl) (by kernel_rfl) ?_
          repeat (first | (refine reg_anyT (by rfl) (fun K hK => ?_); go_simp; refine hK _ _ ?_; clear hK K) | (refine reg_read (by rfl) (fun K hK => ?_); go_simp; refine hK _ _ ?_; clear hK K))
          refine reg_eff (by rfl) (fun rn K hK => ?_)
          obtain ⟨w4, hrun, him, hm4, hz4⟩ := (T3.out.drewN rn).map.del Tryz.underlying3 Tryz.underlying112 0 (HI.out _ HME.out)
          go_simp
          refine hK _ _ ?_; clear hK K
          rw [del_mpV] at him
          refine reg_nil (fun nd => ?_)
          have hlt3 := T3.out.lt
          have hMw : ¬ wr.heap.size = M := by omega
          have B4 := (show Blk (w3.drewN rn) wr.heap.size _ _ from B3H.out).mod hm4 hMw
          have B5 := Lib.hid (show Blk (w4.drewN nd) wr.heap.size #[.int .i64 r.p, .int .i64 x, .int .i64 r.t] 42 from B4)
          have T5 : Hid (TB (w4.drewN nd) b M most each pat (delL (leftL φ (ks.take k) ks) x)) := (show TB w4 b M most each pat (delL (leftL φ (ks.take k) ks) x) from ⟨(T3.out.drewN rn).head.mod hm4 (fun e => T3.out.ne e.symm), him, T3.out.ne⟩).drewN nd
          have hM2 : M < w2.heap.size := by have := H.out.lt.2; have := M2.out.size; omega
          have hb2 : b < w2.heap.size := by have := H.out.lt.1; have := M2.out.size; omega
          have O5 : Hid ((w4.drewN nd).ownsRow w2.heap.size 42 3 u5 ((ks.take k).filter φ).length (rqL ((ks.take k).filter φ))) := owns_mod (S := (· = M)) (w := w3.drewN rn) (w' := w4.drewN nd) O3.out (hm4.drewN nd) (fun i hi (e : i = M) => by omega)
          have M5 := Lib.hid (((MM3.out.drewN rn).trans hm4).drewN nd)
          generalize w4.drewN nd = w5 at B5 T5 M5 O5 ⊢
          have d0 := B5.out.cell 0; have d1 := B5.out.cell 1; have d2 := B5.out.cell 2
          have hlen1 : ((ks.take k).filter φ).length ≤ 1000 := by
            have := List.length_filter_le φ (ks.take k)
            have h2 : (ks.take k).length ≤ k := List.length_take_le _ _
            omega
          clear B4 hm4 him hz4 hrun b0 b1 b2 c3
          go_wp2_with (at_builtin; refine appK rfl (.tmp 24) (.tmp 26) 39 42 3 rfl Tryz.underlying39 infoRq rfl (by decide) _ _ _ #[.int .i64 r.p, .int .i64 x, .int .i64 r.t] rfl M5.out O5.out rfl rfl (by simp [Value.oneCell']) (by decide) (by omega) ?_; intro v' w' g1 g2 g3)
          have G1 := Lib.hid g1
          have T6 := Lib.hid (T5.out.mod g3 (by show ¬ _ ≤ b; omega) (by show ¬ _ ≤ M; omega))
          clear g1 g3
          go_wp2_with fail
          refine ⟨⟨k + 1, by go_num, by omega, ?_, ?_, g2⟩, by simp [intOf]; omega⟩
          · show World.ownsRow _ _ _ _ _ _ _
            rw [HFT.out, hφ]
            have := G1.out
            simpa [rqL, rqC] using this
          · show TB _ _ _ _ _ _ _
            rw [HTK.out, HL.out, hφ]
            exact T6.out
      · have hkn : k = ks.length := by omega
        have hO := hown.out
        rw [hkn, List.take_length] at hO
        have hT2 := hT.out
        rw [hkn, List.take_length, leftL_all φ ks HRI.out] at hT2
        have HO := Lib.hid hO
        have HT := Lib.hid hT2
        have HM := Lib.hid hm
        clear hkn hm hown hO hT hT2
        go_wp2_with fail
        go_ret
        exact ⟨⟨_, rfl, HO.out.mono M2.out.size⟩, HT.out, (M2.out.mono (fun _ _ h => h.elim)).trans HM.out⟩
end Go.Proofs.YtjmfhcliggjdgaaGreatDoor.Fl

/- Package flight: Drop. -/
namespace Go.Proofs.YtjmfhcliggjdgaaGreatDoor.Fl
open Go Go.RowKit

set_option maxRecDepth 100000 in
set_option maxHeartbeats 400000 in
theorem flDrop (q : Int) (b M : Nat) (most each pat : Int) (ks : List (Int × Rq)) (w : World) (h : TB w b M most each pat ks) (hlen : ks.length ≤ 1000) (hI : ∀ q ∈ ks, I64 q.1) :
    Calls Tryz.prog 62 #[.pointer (some ⟨b, 0, none⟩), .int .i64 q] w fun e w' => (∃ v, e = .returned v ∧ w'.ownsRow w.heap.size 42 3 v (ks.filter fun x => x.2.p == q).length (rqL (ks.filter fun x => x.2.p == q))) ∧ TB w' b M most each pat (ks.filter fun x => !(x.2.p == q)) ∧ Mod (· = M) w w' := by
  have m1 := (Mod.refl (fun _ => False) w).alloc (.cells #[.int .i64 q] 3)
  have H1 := Lib.hid (h.new m1)
  have B1 := Lib.hid (Blk.new w #[.int .i64 q] 3)
  have hlt := h.lt
  have HM1 := Lib.hid m1
  clear h m1
  go_enter Tryz.func62, Tryz.ntmps62
  go_wp2_with fail
  refine (flOut 91 #[.pointer (some ⟨w.heap.size, 0, none⟩)] (fun x => x.2.p == q) b M most each pat ks _ H1.out hlen hI (fun _ _ => rfl) (fun w' ks' k r _ hm _ => flDrop1 r.p k r.t q w.heap.size w' (hm.cell (B1.out.cell 0) (by show ¬ w.heap.size = M; omega)))).mono ?_
  rintro e w2 ⟨⟨v, rfl, o⟩, t2, m2⟩
  go_wp2_with fail
  go_ret
  exact ⟨⟨v, rfl, o.mono HM1.out.size⟩, t2, (HM1.out.mono (fun _ _ h => h.elim)).trans m2⟩
end Go.Proofs.YtjmfhcliggjdgaaGreatDoor.Fl

/- Package flight: Late. -/
namespace Go.Proofs.YtjmfhcliggjdgaaGreatDoor.Fl
open Go Go.RowKit

set_option maxRecDepth 100000 in
set_option maxHeartbeats 400000 in
theorem flLateBad (q : Int) (b : Nat) (w : World) (hq : ¬ (0 ≤ q ∧ q ≤ 1099511627776)) :
    Calls Tryz.prog 53 #[.pointer (some ⟨b, 0, none⟩), .int .i64 q] w fun e w' => e = .returned (.tuple #[.slice none 0 0, .int .i64 1]) ∧ Mod (fun _ => False) w w' := by
  have e1 : (decide (0 ≤ q) && decide (q ≤ 1099511627776)) = false := by
    rw [Bool.and_eq_false_iff, decide_eq_false_iff_not, decide_eq_false_iff_not]; omega
  clear hq
  go_enter Tryz.func53, Tryz.ntmps53
  go_wp2_with fail
  refine (flWithin _ _ _ _).mono ?_; rw [e1]; rintro e w' ⟨rfl, rfl⟩
  go_wp2_with fail
  go_ret2
  exact ⟨rfl, ((Mod.refl _ w).alloc _).alloc _⟩
set_option maxRecDepth 100000 in
set_option maxHeartbeats 400000 in
theorem flLate (q : Int) (b M : Nat) (most each pat : Int) (ks : List (Int × Rq)) (w : World) (h : TB w b M most each pat ks) (hlen : ks.length ≤ 1000) (hI : ∀ q ∈ ks, I64 q.1) (hq : 0 ≤ q ∧ q ≤ 1099511627776) (ht : ∀ q ∈ ks, 0 ≤ q.2.t ∧ q.2.t ≤ 1099511627776) :
    Calls Tryz.prog 53 #[.pointer (some ⟨b, 0, none⟩), .int .i64 q] w fun e w' => (∃ v, e = .returned (.tuple #[v, .int .i64 0]) ∧ w'.ownsRow w.heap.size 42 3 v (ks.filter fun x => decide (pat ≤ q - x.2.t)).length (rqL (ks.filter fun x => decide (pat ≤ q - x.2.t)))) ∧ TB w' b M most each pat (ks.filter fun x => !decide (pat ≤ q - x.2.t)) ∧ Mod (· = M) w w' := by
  have e1 : (decide (0 ≤ q) && decide (q ≤ 1099511627776)) = true := by simp [hq.1, hq.2]
  obtain ⟨w1, hw1⟩ : ∃ w1, w1 = (w.alloc (.cells #[.pointer (some ⟨b, 0, none⟩)] 70)).alloc (.cells #[.int .i64 q] 3) := ⟨_, rfl⟩
  have m1 : Mod (fun _ => False) w w1 := by rw [hw1]; exact ((Mod.refl (fun _ => False) w).alloc _).alloc _
  have H1 := Lib.hid (h.new m1)
  have k1 : w1.cell? ⟨w.heap.size, 0, none⟩ = some (.pointer (some ⟨b, 0, none⟩)) := by rw [hw1]; exact ((Blk.new w _ _).alloc _).cell 0
  have k2 : w1.cell? ⟨w.heap.size + 1, 0, none⟩ = some (.int .i64 q) := by
    have := (Blk.new (w.alloc (.cells #[.pointer (some ⟨b, 0, none⟩)] 70)) #[.int .i64 q] 3).cell 0
    rw [hw1]; simp
  have hlt := h.lt
  have HM1 := Lib.hid m1
  have K1 := Lib.hid k1
  have K2 := Lib.hid k2
  have HW := Lib.hid hw1
  clear h m1 k1 k2 hw1
  go_enter Tryz.func53, Tryz.ntmps53
  go_wp2_with fail
  refine (flWithin _ _ _ _).mono ?_; rw [e1]; rintro e w' ⟨rfl, rfl⟩
  go_wp2_with fail
  rw [← HW.out]
  refine (flOut 88 #[.pointer (some ⟨w.heap.size + 1, 0, none⟩), .pointer (some ⟨w.heap.size, 0, none⟩)] (fun x => decide (pat ≤ q - x.2.t)) b M most each pat ks _ H1.out hlen hI (fun _ _ => rfl) (fun w' ks' k r hT hm hmem => flLate1 r.p k r.t q _ _ b M most each pat ks' w' (hm.cell K2.out (by show ¬ w.heap.size + 1 = M; omega)) (hm.cell K1.out (by show ¬ w.heap.size = M; omega)) hT hq (ht _ hmem))).mono ?_
  rintro e w2 ⟨⟨v, rfl, o⟩, t2, m2⟩
  go_wp2_with fail
  go_ret2
  exact ⟨⟨v, rfl, o.mono HM1.out.size⟩, t2, (HM1.out.mono (fun _ _ h => h.elim)).trans m2⟩
end Go.Proofs.YtjmfhcliggjdgaaGreatDoor.Fl

/- The reference of flight: its table, New, Of, Many, Same; no condition. -/
namespace Go.Proofs.YtjmfhcliggjdgaaGreatDoor.Fl
open Go Go.RowKit

abbrev TRq : TypeId := 42
/-- The reference's table at block b; its rows lie in blocks from 'base' on. -/
structure RT (w : World) (b base : Nat) (most each pat : Int) (ks : List (Int × Rq)) : Prop where
  lt : b < base
  run : ∃ a cap, Blk w b #[.int .i64 most, .int .i64 each, .int .i64 pat, .slice a ks.length cap] 62 ∧ w.ownsRow base TRq 3 (.slice a ks.length cap) ks.length (rqL ks)
theorem RT.mod {S : Nat → Prop} {w w' : World} {b base : Nat} {most each pat : Int} {ks : List (Int × Rq)} (h : RT w b base most each pat ks) (hm : Mod S w w') (hb : ¬ S b) (hB : ∀ i, base ≤ i → ¬ S i) : RT w' b base most each pat ks := by
  obtain ⟨h1, a, cap, h2, h3⟩ := h
  exact ⟨h1, a, cap, h2.mod hm hb, owns_mod h3 hm hB⟩
theorem RT.new {w w' : World} {b base : Nat} {most each pat : Int} {ks : List (Int × Rq)} (h : RT w b base most each pat ks) (hm : Mod (fun _ => False) w w') : RT w' b base most each pat ks := h.mod hm (fun h => h) (fun _ _ h => h)
theorem RT.drewN {w : World} {b base : Nat} {most each pat : Int} {ks : List (Int × Rq)} (h : RT w b base most each pat ks) (n : Nat) : RT (w.drewN n) b base most each pat ks := h.new ((Mod.refl _ w).drewN n)
theorem RT.blt {w : World} {b base : Nat} {most each pat : Int} {ks : List (Int × Rq)} (h : RT w b base most each pat ks) : b < w.heap.size := by
  obtain ⟨_, a, cap, h1, _⟩ := h
  exact h1.lt
theorem RT.base {w : World} {b base base' : Nat} {most each pat : Int} {ks : List (Int × Rq)} (h : RT w b base' most each pat ks) (h1 : b < base) (h2 : base ≤ base') : RT w b base most each pat ks := by
  obtain ⟨_, a, cap, h3, h4⟩ := h
  exact ⟨h1, a, cap, h3, h4.mono h2⟩
/-- The blocks of the reference's table. -/
def RTb (w : World) (b : Nat) (i : Nat) : Prop := i = b ∨ ∃ X m cap, w.cell? ⟨b, 3, none⟩ = some (.slice (some X) m cap) ∧ i = X.block
theorem RT.modB {S : Nat → Prop} {w w' : World} {b base : Nat} {most each pat : Int} {ks : List (Int × Rq)} (h : RT w b base most each pat ks) (hm : Mod S w w') (hS : ∀ i, RTb w b i → ¬ S i) : RT w' b base most each pat ks ∧ ∀ i, RTb w' b i → RTb w b i := by
  obtain ⟨h1, a, cap, h2, h3⟩ := h
  have hc : w.cell? ⟨b, 3, none⟩ = some (.slice a ks.length cap) := h2.cell 3
  have hb := hS b (.inl rfl)
  refine ⟨⟨h1, a, cap, h2.mod hm hb, ?_⟩, fun i hi => ?_⟩
  · refine ⟨h3.1, ?_⟩
    rcases h3.2 with h4 | ⟨g, cap', cur, hg, h4, h5, h6⟩
    · exact .inl h4
    · refine .inr ⟨g, cap', cur, hg, h4, hm.heap h5 (hS g (.inr ⟨⟨g, 0, none⟩, _, _, by rw [hc]; exact congrArg some hg, rfl⟩)), h6⟩
  · rcases hi with e | ⟨X, m, c, hx, e⟩
    · exact .inl e
    · have hc' : w'.cell? ⟨b, 3, none⟩ = some (.slice a ks.length cap) := hm.cell hc hb
      rw [hc'] at hx
      exact .inr ⟨X, m, c, by rw [hc]; exact hx, e⟩
theorem RT.low {w : World} {b base : Nat} {most each pat : Int} {ks : List (Int × Rq)} (h : RT w b base most each pat ks) {i : Nat} (hi : RTb w b i) : i < w.heap.size ∧ (i = b ∨ base ≤ i) := by
  obtain ⟨h1, a, cap, h2, h3⟩ := h
  rcases hi with rfl | ⟨X, m, c, hx, rfl⟩
  · exact ⟨h2.lt, .inl rfl⟩
  · have hc : w.cell? ⟨b, 3, none⟩ = some (.slice a ks.length cap) := h2.cell 3
    rw [hc] at hx
    simp only [Option.some.injEq, Value.slice.injEq] at hx
    obtain ⟨rfl, _, _⟩ := hx
    exact ⟨(h3.blk X _ _ rfl).2, .inr (h3.blk X _ _ rfl).1⟩
/-- What a step of the reference leaves. -/
def StepT (b base : Nat) (most each pat : Int) (k2 : List (Int × Rq)) (w w' : World) : Prop := RT w' b base most each pat k2 ∧ Mod (RTb w b) w w' ∧ ∀ i, RTb w' b i → RTb w b i ∨ w.heap.size ≤ i
theorem StepT.fresh {b base : Nat} {most each pat : Int} {ks k2 : List (Int × Rq)} {w w' : World} (h : RT w b base most each pat ks) (hbase : base ≤ w.heap.size) (h2 : RT w' b w.heap.size most each pat k2) (hm : Mod (· = b) w w') : StepT b base most each pat k2 w w' :=
  ⟨h2.base h.lt hbase, hm.mono fun _ _ e => .inl e, fun _ hi => (h2.low hi).2.imp .inl id⟩
theorem StepT.same {b base : Nat} {most each pat : Int} {ks : List (Int × Rq)} {w w' : World} (h : RT w b base most each pat ks) (hm : Mod (fun _ => False) w w') : StepT b base most each pat ks w w' :=
  ⟨h.new hm, hm.mono fun _ _ e => e.elim, fun _ hi => .inl ((h.modB hm fun _ _ h => h).2 _ hi)⟩
/-- What a walk is told of it. -/
theorem RT.at {w : World} {b base : Nat} {most each pat : Int} {ks : List (Int × Rq)} (h : RT w b base most each pat ks) : ∃ a cap, w.cell? ⟨b, 0, none⟩ = some (.int .i64 most) ∧ w.cell? ⟨b, 1, none⟩ = some (.int .i64 each) ∧ w.cell? ⟨b, 2, none⟩ = some (.int .i64 pat) ∧ w.cell? ⟨b, 3, none⟩ = some (.slice a ks.length cap) ∧ w.frozen? ⟨b, 3, none⟩ = false ∧
    Hid (Els w a 3 ks.length (rqL ks)) ∧ Hid (Blk w b #[.int .i64 most, .int .i64 each, .int .i64 pat, .slice a ks.length cap] 62) ∧ Hid (w.ownsRow base TRq 3 (.slice a ks.length cap) ks.length (rqL ks)) := by
  obtain ⟨h1, a, cap, h2, h3⟩ := h
  obtain ⟨a', cap', hv, _, he, _⟩ := h3.els
  cases hv
  exact ⟨a, cap, h2.cell 0, h2.cell 1, h2.cell 2, h2.cell 3, h2.frozen 3, he, h2, h3⟩
/-- The three cells of a row. -/
theorem rqEl {w : World} {a : Option Addr} {n : Nat} {ks : List (Int × Rq)} (h : Els w a 3 n (rqL ks)) (hn : ks.length ≤ n) {i : Nat} {x : Int} {r : Rq} (hi : ks[i]? = some (x, r)) :
    ∃ X, a = some X ∧ w.cell? (X.add (i * 3)) = some (.int .i64 r.p) ∧ w.cell? ⟨(X.add (i * 3)).block, (X.add (i * 3)).off + 1, none⟩ = some (.int .i64 x) ∧ w.cell? ⟨(X.add (i * 3)).block, (X.add (i * 3)).off + 2, none⟩ = some (.int .i64 r.t) := by
  have hl := (List.getElem?_eq_some_iff.1 hi).1
  obtain ⟨X, rfl, h1, h2⟩ := h i (by omega)
  exact ⟨X, rfl, h1 _ (rqL_get ks i 0 x r hi (by decide)), h2 1 _ (rqL_get ks i 1 x r hi (by decide)) (by decide), h2 2 _ (rqL_get ks i 2 x r hi (by decide)) (by decide)⟩

theorem refMoment (n : Int) (w : World) : Calls Tryz.prog 54 #[.int .i64 n] w fun e w' => e = .returned (.bool (decide (0 ≤ n) && decide (n ≤ 1099511627776))) ∧ w = w' := by
  by_cases h1 : 0 ≤ n
  · go_enter Tryz.func54, Tryz.ntmps54
    go_wp2_with fail
    go_ret
    exact ⟨by simp [h1], rfl⟩
  · have h2 : decide (0 ≤ n) = false := by simpa using h1
    go_enter Tryz.func54, Tryz.ntmps54
    go_wp2_with fail
    go_ret
    exact ⟨by simp, rfl⟩
theorem refLife (n : Int) (w : World) : Calls Tryz.prog 58 #[.int .i64 n] w fun e w' => e = .returned (.bool (decide (1 ≤ n) && decide (n ≤ 1048576))) ∧ w = w' := by
  by_cases h1 : 1 ≤ n
  · go_enter Tryz.func58, Tryz.ntmps58
    go_wp2_with fail
    go_ret
    exact ⟨by simp [h1], rfl⟩
  · have h2 : decide (1 ≤ n) = false := by simpa using h1
    go_enter Tryz.func58, Tryz.ntmps58
    go_wp2_with fail
    go_ret
    exact ⟨by simp, rfl⟩
theorem alloc_cells (w : World) (cs : Array Value) (t : TypeId) : ∀ j, (w.alloc (.cells cs t)).cell? ⟨w.heap.size, j, none⟩ = cs[j]? := (Blk.new w cs t).cell

set_option maxRecDepth 100000 in
set_option maxHeartbeats 400000 in
theorem refNew (most each pat : Int) (w : World) (h : NewOk most each pat) :
    Calls Tryz.prog 29 #[.int .i64 most, .int .i64 each, .int .i64 pat] w fun e w' => e = .returned (.tuple #[.pointer (some ⟨w.heap.size, 0, none⟩), .int .i64 0]) ∧ RT w' w.heap.size (w.heap.size + 1) most each pat [] ∧ Mod (fun _ => False) w w' ∧ w'.heap.size = w.heap.size + 1 := by
  obtain ⟨h1, h2, h3, h4, h5, h6⟩ := h
  have e3 : (decide (1 ≤ pat) && decide (pat ≤ 1048576)) = true := by simp [h5, h6]
  have g1 : ¬ most < 1 := by omega
  have g2 : ¬ 256 < most := by omega
  have g3 : ¬ each < 1 := by omega
  have g4 : ¬ most < each := by omega
  go_enter Tryz.func29, Tryz.ntmps29
  go_wp2_with fail
  refine (refLife _ _).mono ?_; rw [e3]; rintro e w' ⟨rfl, rfl⟩
  go_wp2_with fail
  go_ret2
  exact ⟨rfl, ⟨Nat.lt_succ_self _, none, 0, Blk.new w _ _, World.ownsRow_nil _ _ _ _⟩, (Mod.refl _ w).alloc _, by simp⟩
set_option maxRecDepth 100000 in
set_option maxHeartbeats 400000 in
theorem refNewBad (most each pat : Int) (w : World) (h : ¬ NewOk most each pat) :
    Calls Tryz.prog 29 #[.int .i64 most, .int .i64 each, .int .i64 pat] w fun e w' => e = .returned (.tuple #[.pointer none, .int .i64 1]) ∧ w = w' := by
  have HB := Lib.hid h
  by_cases hl : 1 ≤ pat ∧ pat ≤ 1048576
  · have hL : (decide (1 ≤ pat) && decide (pat ≤ 1048576)) = true := by simp [hl.1, hl.2]
    have HL := Lib.hid hl
    clear h hl
    go_enter Tryz.func29, Tryz.ntmps29
    go_wp2_with fail
    refine (refLife _ _).mono ?_; rw [hL]; rintro e w' ⟨rfl, rfl⟩
    clear hL
    go_wp2_with fail
    all_goals first | (go_ret2; exact ⟨rfl, rfl⟩) | (exfalso; apply HB.out; have := HL.out; unfold NewOk; omega)
  · have hL : (decide (1 ≤ pat) && decide (pat ≤ 1048576)) = false := by
      rw [Bool.and_eq_false_iff, decide_eq_false_iff_not, decide_eq_false_iff_not]; omega
    clear h hl
    go_enter Tryz.func29, Tryz.ntmps29
    go_wp2_with fail
    refine (refLife _ _).mono ?_; rw [hL]; rintro e w' ⟨rfl, rfl⟩
    clear hL
    go_wp2_with fail
    all_goals (go_ret2; exact ⟨rfl, rfl⟩)

/-- The first k rows have no such piece. -/
theorem lk_none_take {α : Type} {ks : List (Int × α)} {p : Int} (h : ∀ (i : Nat) (q : Int × α), ks[i]? = some q → q.1 ≠ p) : lkL ks p = none := by
  unfold lkL
  rw [List.find?_eq_none.2]
  · rfl
  · intro q hq
    obtain ⟨i, hi⟩ := List.getElem?_of_mem hq
    simpa using h i q hi

set_option maxRecDepth 100000 in
set_option maxHeartbeats 1000000 in
theorem refOf (p : Int) (b base : Nat) (most each pat : Int) (ks : List (Int × Rq)) (w : World) (h : RT w b base most each pat ks) (hlen : ks.length ≤ 100000) (hr : Rising ks) :
    Calls Tryz.prog 72 #[.pointer (some ⟨b, 0, none⟩), .int .i64 p] w fun e w' => e = .returned (.tuple #[rqAt ks p, .bool (lkL ks p).isSome]) ∧ Mod (fun _ => False) w w' := by
  obtain ⟨a, cap, _, _, _, c3, _, he, _, _⟩ := h.at
  have HR := Lib.hid hr
  have hb : b < w.heap.size := World.block_lt_of_cell? w _ c3
  clear h hr
  go_enter Tryz.func72, Tryz.ntmps72
  go_wp2_with fail
  have m1 : Mod (fun _ => False) w (w.alloc (.cells #[.int .i64 0, .int .i64 0, .int .i64 0] TRq)) := (Mod.refl _ w).alloc _
  have hlt : w.heap.size < (w.alloc (.cells #[.int .i64 0, .int .i64 0, .int .i64 0] TRq)).heap.size := by simp
  have B1 := Lib.hid (Blk.new w #[.int .i64 0, .int .i64 0, .int .i64 0] TRq)
  have E1 := Lib.hid (he.out.new m1)
  have k3 := m1.cell c3 (fun h => h)
  have M1 := Lib.hid m1
  generalize w.alloc (.cells #[.int .i64 0, .int .i64 0, .int .i64 0] TRq) = w1 at *
  obtain ⟨B, hB⟩ : ∃ B, B = w.heap.size := ⟨_, rfl⟩
  rw [← hB] at B1 hb hlt ⊢
  have HB := Lib.hid hB
  clear he hB c3 m1
  go_loopw [6] (fun v wr => ∃ k : Nat, v = .int .i64 k ∧ k ≤ ks.length ∧ Hid (∀ (j : Nat) (q : Int × Rq), j < k → ks[j]? = some q → q.1 ≠ p) ∧ wr = w1) (fun v _ => ks.length - (intOf v).toNat)
  case atStart => exact ⟨0, rfl, Nat.zero_le _, fun j q h => absurd h (Nat.not_lt_zero _), rfl⟩
  case round =>
    obtain ⟨k, rfl, hk, hno, rfl⟩ := hrel
    by_cases hlt : (k : Int) < ks.length
    · obtain ⟨⟨x, r⟩, hkr⟩ : ∃ q, ks[k]? = some q := ⟨_, List.getElem?_eq_getElem (by omega)⟩
      obtain ⟨X, rfl, p0, p1, p2⟩ := rqEl E1.out (Nat.le_refl _) hkr
      by_cases e : x = p
      · subst e
        have hl := lk_of_mem HR.out (List.mem_of_getElem? hkr)
        have HL := Lib.hid hl
        have f0 := B1.out.frozen 0; have f1 := B1.out.frozen 1; have f2 := B1.out.frozen 2
        have x0 := B1.out.cell 0; have x1 := B1.out.cell 1; have x2 := B1.out.cell 2
        have d0 := (B1.out.set 0 (.int .i64 r.p)).cell 0
        have d1 := ((B1.out.set 0 (.int .i64 r.p)).set 1 (.int .i64 x)).cell 1
        have d2 := (((B1.out.set 0 (.int .i64 r.p)).set 1 (.int .i64 x)).set 2 (.int .i64 r.t)).cell 2
        have D0 := Lib.hid d0; have D1 := Lib.hid d1; have D2 := Lib.hid d2
        clear d0 d1 d2 hl hkr
        go_wp2_with fail
        refine bodyPost_ret (v := .tuple #[.agg #[.int .i64 r.p, .int .i64 x, .int .i64 r.t], .bool true]) (by simp [results, Tryz.results72, go_sem, D0.out, D1.out, D2.out]) rfl ⟨by unfold rqAt; rw [HL.out]; rfl, ?_⟩
        exact ((M1.out.setCell (.inr (Nat.le_of_eq HB.out.symm)) _).setCell (.inr (Nat.le_of_eq HB.out.symm)) _).setCell (.inr (Nat.le_of_eq HB.out.symm)) _
      · have e' : (x == p) = false := by simpa using e
        have HN : Hid (∀ (j : Nat) (q : Int × Rq), j < k + 1 → ks[j]? = some q → q.1 ≠ p) := by
          intro j q hj hq
          by_cases ej : j = k
          · subst ej
            rw [hkr] at hq
            cases hq
            exact e
          · exact hno.out j q (by omega) hq
        clear hkr e
        go_wp2_with fail
        exact ⟨⟨k + 1, by go_num, by omega, HN, by first | trivial | rfl⟩, by simp [intOf]; omega⟩
    · have hl : lkL ks p = none := lk_none_take fun i q hi => hno.out i q (by have := (List.getElem?_eq_some_iff.1 hi).1; omega) hi
      have HL := Lib.hid hl
      have f0 := B1.out.frozen 0; have f1 := B1.out.frozen 1; have f2 := B1.out.frozen 2
      have x0 := B1.out.cell 0; have x1 := B1.out.cell 1; have x2 := B1.out.cell 2
      have d0 := (B1.out.set 0 (.int .i64 0)).cell 0
      have d1 := ((B1.out.set 0 (.int .i64 0)).set 1 (.int .i64 0)).cell 1
      have d2 := (((B1.out.set 0 (.int .i64 0)).set 1 (.int .i64 0)).set 2 (.int .i64 0)).cell 2
      have D0 := Lib.hid d0; have D1 := Lib.hid d1; have D2 := Lib.hid d2
      clear d0 d1 d2 hl
      go_wp2_with fail
      refine bodyPost_ret (v := .tuple #[.agg #[.int .i64 0, .int .i64 0, .int .i64 0], .bool false]) (by simp [results, Tryz.results72, go_sem, D0.out, D1.out, D2.out]) rfl ⟨by unfold rqAt; rw [HL.out]; rfl, ?_⟩
      exact ((M1.out.setCell (.inr (Nat.le_of_eq HB.out.symm)) _).setCell (.inr (Nat.le_of_eq HB.out.symm)) _).setCell (.inr (Nat.le_of_eq HB.out.symm)) _

/-- Do two lists agree? What Same tells, if they do. -/
theorem rq_inj {q : Int × Rq} {q' : Int × Rq} (h1 : q.2.p = q'.2.p) (h2 : q.1 = q'.1) (h3 : q.2.t = q'.2.t) : q = q' := by
  obtain ⟨k, p, t⟩ := q
  obtain ⟨k', p', t'⟩ := q'
  simp only at h1 h2 h3
  rw [h1, h2, h3]

set_option maxRecDepth 100000 in
set_option maxHeartbeats 1000000 in
theorem refMany (p : Int) (b base : Nat) (most each pat : Int) (ks : List (Int × Rq)) (w : World) (h : RT w b base most each pat ks) (hlen : ks.length ≤ 100000) :
    Calls Tryz.prog 94 #[.pointer (some ⟨b, 0, none⟩), .int .i64 p] w fun e w' => e = .returned (.int .i64 (many ks p)) ∧ w = w' := by
  obtain ⟨a, cap, _, _, _, c3, _, he, _, _⟩ := h.at
  clear h
  go_enter Tryz.func94, Tryz.ntmps94
  go_wp2_with fail
  go_loopw [5, 6] (fun n v wr => ∃ (k c : Nat), v = .int .i64 k ∧ n = .int .i64 c ∧ k ≤ ks.length ∧ c ≤ k ∧ Hid (c = many (ks.take k) p) ∧ wr = w) (fun _ v _ => ks.length - (intOf v).toNat)
  case atStart => exact ⟨0, 0, rfl, rfl, Nat.zero_le _, Nat.le_refl _, rfl, rfl⟩
  case round =>
    obtain ⟨k, c, rfl, rfl, hk, hck, hc, rfl⟩ := hrel
    by_cases hlt : (k : Int) < ks.length
    · obtain ⟨⟨x, r⟩, hkr⟩ : ∃ q, ks[k]? = some q := ⟨_, List.getElem?_eq_getElem (by omega)⟩
      obtain ⟨X, rfl, p0, p1, p2⟩ := rqEl he.out (Nat.le_refl _) hkr
      have hm : many (ks.take (k + 1)) p = many (ks.take k) p + if r.p = p then 1 else 0 := by
        unfold many
        rw [filter_take _ ks k (x, r) hkr, List.length_append]
        by_cases e : r.p = p <;> simp [e]
      have HM := Lib.hid hm
      clear hm hkr
      by_cases e : r.p = p
      · have e' : (r.p == p) = true := by simpa using e
        go_wp2_with fail
        exact ⟨⟨k + 1, c + 1, by go_num, by go_num, by omega, by omega, (by rw [HM.out, if_pos e, ← hc.out] : c + 1 = many (ks.take (k + 1)) p), by first | trivial | rfl⟩, by simp [intOf]; omega⟩
      · have e' : (r.p == p) = false := by simpa using e
        go_wp2_with fail
        exact ⟨⟨k + 1, c, by go_num, rfl, by omega, by omega, (by rw [HM.out, if_neg e, ← hc.out]; rfl : c = many (ks.take (k + 1)) p), by first | trivial | rfl⟩, by simp [intOf]; omega⟩
    · have hkn : k = ks.length := by omega
      have hF : c = many ks p := by rw [hc.out, hkn, List.take_length]
      have HF := Lib.hid hF
      clear hkn hF
      go_wp2_with fail
      go_ret
      exact ⟨by rw [HF.out]; rfl, rfl⟩
end Go.Proofs.YtjmfhcliggjdgaaGreatDoor.Fl

/- The reference of flight: Same, Ask, Done, Drop, Late; no condition. -/
namespace Go.Proofs.YtjmfhcliggjdgaaGreatDoor.Fl
open Go Go.RowKit

set_option maxRecDepth 100000 in
set_option maxHeartbeats 1000000 in
theorem refSame (a a' : Option Addr) (cap cap' : Nat) (ks ks' : List (Int × Rq)) (w : World) (h : Els w a 3 ks.length (rqL ks)) (h' : Els w a' 3 ks'.length (rqL ks')) (hlen : ks.length ≤ 100000) (hlen' : ks'.length ≤ 100000) :
    Calls Tryz.prog 21 #[.slice a ks.length cap, .slice a' ks'.length cap'] w fun e w' => (∃ B : Bool, e = .returned (.bool B) ∧ (ks = ks' → B = true)) ∧ Mod (fun _ => False) w w' := by
  have HE := Lib.hid h
  have HE' := Lib.hid h'
  clear h h'
  by_cases hl : ks.length = ks'.length
  · have hl' : ((ks.length : Int) == (ks'.length : Int)) = true := by simp [hl]
    rw [← hl] at HE' ⊢
    clear hl'
    go_enter Tryz.func21, Tryz.ntmps21
    go_wp2_with fail
    go_loopw [5] (fun v wr => ∃ (k : Nat), v = .int .i64 k ∧ k ≤ ks.length ∧ Mod (fun _ => False) w wr) (fun v _ => ks.length - (intOf v).toNat)
    case atStart => exact ⟨0, rfl, Nat.zero_le _, Mod.refl _ _⟩
    case round =>
      obtain ⟨k, rfl, hk, hm⟩ := hrel
      by_cases hlt : (k : Int) < ks.length
      · obtain ⟨⟨x, r⟩, hkr⟩ : ∃ q, ks[k]? = some q := ⟨_, List.getElem?_eq_getElem (by omega)⟩
        obtain ⟨⟨x', r'⟩, hkr'⟩ : ∃ q, ks'[k]? = some q := ⟨_, List.getElem?_eq_getElem (by omega)⟩
        obtain ⟨X, rfl, p0, p1, p2⟩ := rqEl (HE.out.new hm) (Nat.le_refl _) hkr
        obtain ⟨Y, rfl, q0, q1, q2⟩ := rqEl (HE'.out.new hm) (Nat.le_of_eq hl.symm) hkr'
        by_cases e : (x, r) = (x', r')
        · cases e
          clear hkr hkr'
          have hl3 : Hid (ks.length = ks'.length) := hl
          clear hl
          go_wp2_with fail
          go_quiet (fail)
          go_wp2_with fail
          exact ⟨⟨k + 1, by go_num, by omega, hm.drewN _⟩, by simp [intOf]; omega⟩
        · have HN : Hid (ks ≠ ks') := by
            intro hh
            subst hh
            rw [hkr] at hkr'
            exact e (Option.some.inj hkr')
          have hl3 : Hid (ks.length = ks'.length) := hl
          clear hkr hkr' hl
          by_cases e1 : r.p = r'.p
          · by_cases e2 : x = x'
            · have e3 : ¬ r.t = r'.t := fun h => e (rq_inj e1 e2 h)
              clear e
              go_wp2_with fail
              go_quiet (fail)
              go_wp2_with fail
              go_ret
              exact ⟨⟨false, rfl, fun e => absurd e HN.out⟩, hm.drewN _⟩
            · clear e
              go_wp2_with fail
              go_quiet (fail)
              go_wp2_with fail
              go_ret
              exact ⟨⟨false, rfl, fun e => absurd e HN.out⟩, hm.drewN _⟩
          · clear e
            go_wp2_with fail
            go_quiet (fail)
            go_wp2_with fail
            go_ret
            exact ⟨⟨false, rfl, fun e => absurd e HN.out⟩, hm.drewN _⟩
      · go_wp2_with fail
        go_ret
        exact ⟨.inr rfl, hm⟩
  · have hl' : ((ks.length : Int) == (ks'.length : Int)) = false := by simp; omega
    go_enter Tryz.func21, Tryz.ntmps21
    go_wp2_with fail
    go_ret
    exact ⟨⟨false, rfl, fun e => absurd (by rw [e]) hl⟩, Mod.refl _ _⟩
end Go.Proofs.YtjmfhcliggjdgaaGreatDoor.Fl

/- The reference of flight: Ask; no condition. -/
namespace Go.Proofs.YtjmfhcliggjdgaaGreatDoor.Fl
open Go Go.RowKit

/-- Where a piece is put in. -/
theorem ins_at {α : Type} (x : Int × α) : ∀ (ks : List (Int × α)) (k : Nat), (∀ (j : Nat) (q : Int × α), j < k → ks[j]? = some q → q.1 < x.1) → k ≤ ks.length → (∀ q, ks[k]? = some q → x.1 < q.1) → insS x ks = ks.take k ++ x :: ks.drop k
  | [], k, _, hk, _ => by simp at hk; subst hk; rfl
  | y :: t, 0, _, _, h2 => by
    have := h2 y rfl
    unfold insS
    rw [if_pos this]
    rfl
  | y :: t, k + 1, h1, hk, h2 => by
    have := h1 0 y (by omega) rfl
    unfold insS
    rw [if_neg (by omega), ins_at x t k (fun j q hj hq => h1 (j + 1) q (by omega) (by simpa using hq)) (by simpa using hk) (fun q hq => h2 q (by simpa using hq))]
    rfl
theorem rqL_append (a b : List (Int × Rq)) : rqL (a ++ b) = rqL a ++ rqL b := List.flatMap_append
theorem rqL_len : ∀ ks : List (Int × Rq), (rqL ks).length = ks.length * 3
  | [] => rfl
  | q :: t => by
    show (rqC q ++ rqL t).length = _
    rw [List.length_append, rqL_len t]
    simp [rqC]; omega
theorem rqL_takeN : ∀ (ks : List (Int × Rq)) (k : Nat), rqL (ks.take k) = (rqL ks).take (k * 3)
  | [], k => by simp [rqL]
  | q :: t, 0 => by simp [rqL]
  | q :: t, k + 1 => by
    show rqC q ++ rqL (t.take k) = (rqC q ++ rqL t).take ((k + 1) * 3)
    have : (rqC q).length = 3 := rfl
    rw [List.take_append, this, List.take_of_length_le (l := rqC q) (by omega), show (k + 1) * 3 - 3 = k * 3 by omega, rqL_takeN t k]
theorem rqL_dropN : ∀ (ks : List (Int × Rq)) (k : Nat), rqL (ks.drop k) = (rqL ks).drop (k * 3)
  | [], k => by simp [rqL]
  | q :: t, 0 => by simp [rqL]
  | q :: t, k + 1 => by
    show rqL (t.drop k) = (rqC q ++ rqL t).drop ((k + 1) * 3)
    have : (rqC q).length = 3 := rfl
    rw [List.drop_append, this, List.drop_eq_nil_of_le (show (rqC q).length ≤ (k + 1) * 3 by rw [this]; omega), show (k + 1) * 3 - 3 = k * 3 by omega, rqL_dropN t k]
    rfl
theorem rq_one (x : Int) (r : Rq) : rqL [(x, r)] = [.int .i64 r.p, .int .i64 x, .int .i64 r.t] := rfl

theorem rqL_one (ks : List (Int × Rq)) : ∀ u ∈ rqL ks, u.oneCell' = true := by
  intro u hu
  obtain ⟨q, _, hq⟩ := List.mem_flatMap.1 hu
  simp only [rqC, List.mem_cons, List.not_mem_nil, or_false] at hq
  rcases hq with rfl | rfl | rfl <;> rfl
set_option maxRecDepth 100000 in
set_option maxHeartbeats 2000000 in
theorem refAsk0 (p k t : Int) (b base : Nat) (most each pat : Int) (ks : List (Int × Rq)) (w : World) (h : RT w b base most each pat ks) (hlen : ks.length ≤ 1000) (hr : Rising ks)
    (hin : 0 ≤ p ∧ p ≤ 65536 ∧ 0 ≤ k ∧ k ≤ 1023 ∧ 0 ≤ t ∧ t ≤ 1099511627776) (hno : lkL ks k = none) (h1 : ¬ most ≤ (ks.length : Int)) (h2 : ¬ each ≤ (many ks p : Int)) :
    Calls Tryz.prog 69 #[.pointer (some ⟨b, 0, none⟩), .int .i64 p, .int .i64 k, .int .i64 t] w fun e w' => e = .returned (.int .i64 0) ∧ RT w' b w.heap.size most each pat (putL ks k ⟨p, t⟩) ∧ Mod (· = b) w w' := by
  have HBW := Lib.hid h.blt
  obtain ⟨i1, i2, i3, i4, i5, i6⟩ := hin
  have e3 : (decide (0 ≤ t) && decide (t ≤ 1099511627776)) = true := by simp [i5, i6]
  have g1 : ¬ p < 0 := by omega
  have g2 : ¬ 65536 < p := by omega
  have g3 : ¬ k < 0 := by omega
  have g4 : ¬ 1023 < k := by omega
  have H := Lib.hid h
  have HR := Lib.hid hr
  have HN := Lib.hid hno
  clear h hr hno i1 i2 i3 i4 i5 i6
  go_enter Tryz.func69, Tryz.ntmps69
  go_wp2_with fail
  refine (refMoment _ _).mono ?_; rw [e3]; rintro e w' ⟨rfl, rfl⟩
  go_wp2_with fail
  refine (refOf _ _ _ _ _ _ _ _ H.out (by omega) HR.out).mono ?_; rw [HN.out, show rqAt ks k = rq0 by unfold rqAt; rw [HN.out]; rfl]; rintro e w1 ⟨rfl, m1⟩
  clear g1 g2 g3 g4 e3
  go_wp2_with fail
  have m2 : Mod (fun _ => False) w (w1.alloc (.cells #[.int .i64 0, .int .i64 0, .int .i64 0] TRq)) := m1.alloc _
  have H2 := Lib.hid (H.out.new m2)
  have M2 := Lib.hid m2
  generalize w1.alloc (.cells #[.int .i64 0, .int .i64 0, .int .i64 0] TRq) = w2 at *
  obtain ⟨a, cap, c0, c1, _, c3, f3, he, hb, ho⟩ := H2.out.at
  clear m1 m2
  go_wp2_with fail
  refine wp_region2 [] [94] (by kernel_rfl) (by kernel_rfl) ?_
  repeat (first | (refine reg_anyT (by rfl) (fun K hK => ?_); go_simp; refine hK _ _ ?_; clear hK K) | (refine reg_read (by rfl) (fun K hK => ?_); go_simp; refine hK _ _ ?_; clear hK K))
  refine reg_read (by rfl) (fun K hK => ?_); go_simp
  refine ⟨_, fun rn => rd_same (refMany p _ _ _ _ _ _ _ (H2.out.drewN rn) (by omega)), hK _ _ ?_⟩; clear hK K
  repeat (first | (refine reg_anyT (by rfl) (fun K hK => ?_); go_simp; refine hK _ _ ?_; clear hK K) | (refine reg_read (by rfl) (fun K hK => ?_); go_simp; refine hK _ _ ?_; clear hK K))
  refine reg_nil (fun nd => ?_)
  have H3 := Lib.hid (H2.out.drewN nd)
  have M3 := Lib.hid (M2.out.drewN nd)
  have E3 := Lib.hid (show Els (w2.drewN nd) a 3 ks.length (rqL ks) from he.out.new ((Mod.refl _ w2).drewN nd))
  have B3 := Lib.hid (hb.out.drewN nd)
  have O3 := Lib.hid (show (w2.drewN nd).ownsRow base TRq 3 (.slice a ks.length cap) ks.length (rqL ks) from owns_new ho.out ((Mod.refl _ w2).drewN nd))
  have c3' : (w2.drewN nd).cell? ⟨b, 3, none⟩ = some (.slice a ks.length cap) := c3
  have f3' : (w2.drewN nd).frozen? ⟨b, 3, none⟩ = false := f3
  generalize w2.drewN nd = w3 at *
  clear H2 M2 he hb ho c0 c1 c3 f3
  have hbl : b < w3.heap.size := B3.out.lt
  have hcap : ks.length ≤ cap := by
    obtain ⟨a', cap', hv, h, _⟩ := O3.out.els
    cases hv
    exact h
  go_wp2_with fail
  clear h1 h2
  go_loopw [12] (fun v wr => ∃ j : Nat, v = .int .i64 j ∧ j ≤ ks.length ∧ Hid (∀ (i : Nat) (q : Int × Rq), i < j → ks[i]? = some q → q.1 < k) ∧ wr = w3) (fun v _ => ks.length - (intOf v).toNat)
  case atStart => exact ⟨0, rfl, Nat.zero_le _, fun i q h => absurd h (Nat.not_lt_zero _), rfl⟩
  case round =>
    obtain ⟨j, rfl, hj, hlow, rfl⟩ := hrel
    by_cases hlt : (j : Int) < ks.length
    · obtain ⟨⟨x, r⟩, hkr⟩ : ∃ q, ks[j]? = some q := ⟨_, List.getElem?_eq_getElem (by omega)⟩
      obtain ⟨X, rfl, p0, p1, p2⟩ := rqEl E3.out (Nat.le_refl _) hkr
      by_cases e : x < k
      · have HL : Hid (∀ (i : Nat) (q : Int × Rq), i < j + 1 → ks[i]? = some q → q.1 < k) := by
          intro i q hi hq
          by_cases ej : i = j
          · subst ej
            rw [hkr] at hq
            cases hq
            exact e
          · exact hlow.out i q (by omega) hq
        clear hkr
        go_wp2_with fail
        exact ⟨⟨j + 1, by go_num, by omega, HL, by first | trivial | rfl⟩, by simp [intOf]; omega⟩
      · have hP : putL ks k ⟨p, t⟩ = ks.take j ++ (k, ⟨p, t⟩) :: ks.drop j := by
          unfold putL
          rw [del_of_none HN.out]
          refine ins_at _ ks j hlow.out hj fun q hq => ?_
          rw [hkr] at hq
          cases hq
          have := lk_none.1 HN.out (x, r) (List.mem_of_getElem? hkr)
          show k < x
          simp only at this
          omega
        have HP := Lib.hid hP
        clear hkr hP
        have hjc : (j : Int) ≤ cap := by omega
        have hjc2 : (ks.length : Int) ≤ cap := by omega
        obtain ⟨B0, hB0⟩ : ∃ B, B = wr.heap.size := ⟨_, rfl⟩
        have HX : Hid (∀ x n c, Value.slice (some X) ks.length cap = .slice (some x) n c → ¬ B0 ≤ x.block) := by
          intro x n c hv
          have := O3.out.blk x n c hv
          omega
        have hbb : w.heap.size ≤ B0 := by rw [hB0]; exact M3.out.size
        have hbl0 : b < B0 := by rw [hB0]; exact hbl
        have HB0 := Lib.hid hB0
        clear hB0
        have TK := Lib.hid (rqL_takeN ks j)
        have TD := Lib.hid (rqL_dropN ks j)
        go_wp2_with (first
          | (at_builtin; refine appS (base := B0) rfl (.tmp 82) (.tmp 88) 39 TRq 3 rfl Tryz.underlying39 infoRq rfl (by decide) _ _ _ _ j (rqL (ks.take j)) (by have := HB0.out; simp; omega) (owns_empty _ _ _ _ (Nat.le_of_eq HB0.out)) rfl rfl (by rw [TK.out]; exact (O3.out.sl.alloc _).head (by omega)) (rqL_one _) (by decide) (by omega) ?_; intro v1 w4 o1 n1
             have O1 := Lib.hid o1
             have N1 := Lib.hid ((((Mod.refl (fun i => B0 ≤ i) wr).alloc (.cells #[] TRq))).trans n1)
             have hB4 : B0 ≤ w4.heap.size := by have := N1.out.size; have := HB0.out; omega
             clear o1 n1)
          | (at_builtin; refine appS (base := B0) rfl (.tmp 90) (.tmp 95) 39 TRq 3 rfl Tryz.underlying39 infoRq rfl (by decide) _ _ _ _ 1 [.int .i64 p, .int .i64 k, .int .i64 t] (by simp; omega) (owns_new O1.out ((Mod.refl (fun _ => False) w4).alloc _)) rfl rfl (sl_new w4 _ _) (by simp [Value.oneCell']) (by decide) (by omega) ?_; intro v2 w5 o2 n2
             have O2 := Lib.hid o2
             have N2 := Lib.hid ((N1.out.alloc (.cells #[.int .i64 p, .int .i64 k, .int .i64 t] TRq)).trans n2)
             have hB5 : B0 ≤ w5.heap.size := by have := N2.out.size; have := HB0.out; omega
             have k3 := N2.out.cell c3' (by show ¬ B0 ≤ b; omega)
             clear o2 n2)
          | (at_builtin; refine appS (base := B0) rfl (.tmp 98) (.tmp 104) 39 TRq 3 rfl Tryz.underlying39 infoRq rfl (by decide) _ _ _ _ (ks.length - j) (rqL (ks.drop j)) hB5 O2.out rfl rfl (by rw [TD.out]; first | exact (O3.out.sl.mod N2.out (HX.out)).tail (by omega) hcap | exact (O3.out.sl.mod N2.out (HX.out)).tailN (by omega) hcap) (rqL_one _) (by decide) (by omega) ?_; intro v3 w6 o3 n3
             obtain ⟨a3, cap3, rfl, _, _, _⟩ := o3.els
             have O3' := Lib.hid o3
             have N3 := Lib.hid (N2.out.trans n3)
             have k33 := N3.out.cell c3' (by show ¬ B0 ≤ b; omega)
             have f33 : w6.frozen? ⟨b, 3, none⟩ = false := by rw [N3.out.frozen hbl (by show ¬ B0 ≤ b; omega)]; exact f3'
             clear o3 n3 k3))
        all_goals (
          go_ret
          have hlenP : (putL ks k ⟨p, t⟩).length = j + 1 + (ks.length - j) := by rw [HP.out]; simp; omega
          refine ⟨rfl, ⟨HBW.out, a3, cap3, ?_, ?_⟩, ?_⟩
          · have := (B3.out.mod N3.out (by show ¬ B0 ≤ b; omega)).set 3 (.slice a3 (j + 1 + (ks.length - j)) cap3)
            rw [hlenP]
            exact this
          · have hr : rqL (putL ks k ⟨p, t⟩) = rqL (ks.take j) ++ [.int .i64 p, .int .i64 k, .int .i64 t] ++ rqL (ks.drop j) := by
              rw [HP.out, rqL_append, show (k, (⟨p, t⟩ : Rq)) :: ks.drop j = [(k, ⟨p, t⟩)] ++ ks.drop j from rfl, rqL_append, rq_one, ← List.append_assoc]
            have h1 : w6.ownsRow w.heap.size TRq 3 (.slice a3 (putL ks k ⟨p, t⟩).length cap3) (putL ks k ⟨p, t⟩).length (rqL (putL ks k ⟨p, t⟩)) := by
              rw [hr, hlenP]
              simpa using O3'.out.mono hbb
            exact owns_mod (S := (· = b)) h1 ((Mod.refl _ w6).set1 3 _) (fun i hi e => by have := HBW.out; omega)
          · exact ((M3.out.mono (fun _ _ h => h.elim)).trans (N3.out.mono (S' := (· = b)) (fun i hi (h : B0 ≤ i) => by have := HB0.out; omega))).set1 3 _)
    · have hjn : j = ks.length := by omega
      have hP : putL ks k ⟨p, t⟩ = ks.take j ++ (k, ⟨p, t⟩) :: ks.drop j := by
        unfold putL
        rw [del_of_none HN.out]
        refine ins_at _ ks j hlow.out hj fun q hq => ?_
        have := (List.getElem?_eq_some_iff.1 hq).1
        omega
      have HP := Lib.hid hP
      clear hP hjn
      cases a with
      | some X =>
        have hjc : (j : Int) ≤ cap := by omega
        have hjc2 : (ks.length : Int) ≤ cap := by omega
        obtain ⟨B0, hB0⟩ : ∃ B, B = wr.heap.size := ⟨_, rfl⟩
        have HX : Hid (∀ x n c, Value.slice (some X) ks.length cap = .slice (some x) n c → ¬ B0 ≤ x.block) := by
          intro x n c hv
          have := O3.out.blk x n c hv
          omega
        have hbb : w.heap.size ≤ B0 := by rw [hB0]; exact M3.out.size
        have hbl0 : b < B0 := by rw [hB0]; exact hbl
        have HB0 := Lib.hid hB0
        clear hB0
        have TK := Lib.hid (rqL_takeN ks j)
        have TD := Lib.hid (rqL_dropN ks j)
        go_wp2_with (first
          | (at_builtin; refine appS (base := B0) rfl (.tmp 82) (.tmp 88) 39 TRq 3 rfl Tryz.underlying39 infoRq rfl (by decide) _ _ _ _ j (rqL (ks.take j)) (by have := HB0.out; simp; omega) (owns_empty _ _ _ _ (Nat.le_of_eq HB0.out)) rfl rfl (by rw [TK.out]; exact (O3.out.sl.alloc _).head (by omega)) (rqL_one _) (by decide) (by omega) ?_; intro v1 w4 o1 n1
             have O1 := Lib.hid o1
             have N1 := Lib.hid ((((Mod.refl (fun i => B0 ≤ i) wr).alloc (.cells #[] TRq))).trans n1)
             have hB4 : B0 ≤ w4.heap.size := by have := N1.out.size; have := HB0.out; omega
             clear o1 n1)
          | (at_builtin; refine appS (base := B0) rfl (.tmp 90) (.tmp 95) 39 TRq 3 rfl Tryz.underlying39 infoRq rfl (by decide) _ _ _ _ 1 [.int .i64 p, .int .i64 k, .int .i64 t] (by simp; omega) (owns_new O1.out ((Mod.refl (fun _ => False) w4).alloc _)) rfl rfl (sl_new w4 _ _) (by simp [Value.oneCell']) (by decide) (by omega) ?_; intro v2 w5 o2 n2
             have O2 := Lib.hid o2
             have N2 := Lib.hid ((N1.out.alloc (.cells #[.int .i64 p, .int .i64 k, .int .i64 t] TRq)).trans n2)
             have hB5 : B0 ≤ w5.heap.size := by have := N2.out.size; have := HB0.out; omega
             have k3 := N2.out.cell c3' (by show ¬ B0 ≤ b; omega)
             clear o2 n2)
          | (at_builtin; refine appS (base := B0) rfl (.tmp 98) (.tmp 104) 39 TRq 3 rfl Tryz.underlying39 infoRq rfl (by decide) _ _ _ _ (ks.length - j) (rqL (ks.drop j)) hB5 O2.out rfl rfl (by rw [TD.out]; first | exact (O3.out.sl.mod N2.out (HX.out)).tail (by omega) hcap | exact (O3.out.sl.mod N2.out (HX.out)).tailN (by omega) hcap) (rqL_one _) (by decide) (by omega) ?_; intro v3 w6 o3 n3
             obtain ⟨a3, cap3, rfl, _, _, _⟩ := o3.els
             have O3' := Lib.hid o3
             have N3 := Lib.hid (N2.out.trans n3)
             have k33 := N3.out.cell c3' (by show ¬ B0 ≤ b; omega)
             have f33 : w6.frozen? ⟨b, 3, none⟩ = false := by rw [N3.out.frozen hbl (by show ¬ B0 ≤ b; omega)]; exact f3'
             clear o3 n3 k3))
        all_goals (
          go_ret
          have hlenP : (putL ks k ⟨p, t⟩).length = j + 1 + (ks.length - j) := by rw [HP.out]; simp; omega
          refine ⟨rfl, ⟨HBW.out, a3, cap3, ?_, ?_⟩, ?_⟩
          · have := (B3.out.mod N3.out (by show ¬ B0 ≤ b; omega)).set 3 (.slice a3 (j + 1 + (ks.length - j)) cap3)
            rw [hlenP]
            exact this
          · have hr : rqL (putL ks k ⟨p, t⟩) = rqL (ks.take j) ++ [.int .i64 p, .int .i64 k, .int .i64 t] ++ rqL (ks.drop j) := by
              rw [HP.out, rqL_append, show (k, (⟨p, t⟩ : Rq)) :: ks.drop j = [(k, ⟨p, t⟩)] ++ ks.drop j from rfl, rqL_append, rq_one, ← List.append_assoc]
            have h1 : w6.ownsRow w.heap.size TRq 3 (.slice a3 (putL ks k ⟨p, t⟩).length cap3) (putL ks k ⟨p, t⟩).length (rqL (putL ks k ⟨p, t⟩)) := by
              rw [hr, hlenP]
              simpa using O3'.out.mono hbb
            exact owns_mod (S := (· = b)) h1 ((Mod.refl _ w6).set1 3 _) (fun i hi e => by have := HBW.out; omega)
          · exact ((M3.out.mono (fun _ _ h => h.elim)).trans (N3.out.mono (S' := (· = b)) (fun i hi (h : B0 ≤ i) => by have := HB0.out; omega))).set1 3 _)
      | none =>
        have hk0 : ks = [] := by
          rcases O3.out.2 with ⟨_, h⟩ | ⟨g, c, cur, h, _⟩
          · exact List.length_eq_zero_iff.1 h
          · cases h
        subst hk0
        have hj0 : j = 0 := by simpa using hj
        subst hj0
        obtain ⟨B0, hB0⟩ : ∃ B, B = wr.heap.size := ⟨_, rfl⟩
        have hbb : w.heap.size ≤ B0 := by rw [hB0]; exact M3.out.size
        have hbl0 : b < B0 := by rw [hB0]; exact hbl
        have HB0 := Lib.hid hB0
        clear hB0
        have hcap0 : cap = 0 := by
          rcases O3.out.2 with ⟨h, _⟩ | ⟨g, c, cur, h, _⟩
          · cases h; rfl
          · cases h
        subst hcap0
        go_wp2_with (first
          | (at_builtin; refine appS (base := B0) rfl (.tmp 82) (.tmp 88) 39 TRq 3 rfl Tryz.underlying39 infoRq rfl (by decide) _ _ _ _ 0 [] (by have := HB0.out; simp; omega) (owns_empty _ _ _ _ (Nat.le_of_eq HB0.out)) rfl rfl (Sl.nil _ _) (by simp) (by decide) (by omega) ?_; intro v1 w4 o1 n1
             have O1 := Lib.hid o1
             have N1 := Lib.hid ((((Mod.refl (fun i => B0 ≤ i) wr).alloc (.cells #[] TRq))).trans n1)
             have hB4 : B0 ≤ w4.heap.size := by have := N1.out.size; have := HB0.out; omega
             clear o1 n1)
          | (at_builtin; refine appS (base := B0) rfl (.tmp 90) (.tmp 95) 39 TRq 3 rfl Tryz.underlying39 infoRq rfl (by decide) _ _ _ _ 1 [.int .i64 p, .int .i64 k, .int .i64 t] (by simp; omega) (owns_new O1.out ((Mod.refl (fun _ => False) w4).alloc _)) rfl rfl (sl_new w4 _ _) (by simp [Value.oneCell']) (by decide) (by omega) ?_; intro v2 w5 o2 n2
             have O2 := Lib.hid o2
             have N2 := Lib.hid ((N1.out.alloc (.cells #[.int .i64 p, .int .i64 k, .int .i64 t] TRq)).trans n2)
             have hB5 : B0 ≤ w5.heap.size := by have := N2.out.size; have := HB0.out; omega
             have k3 := N2.out.cell c3' (by show ¬ B0 ≤ b; omega)
             clear o2 n2)
          | (at_builtin; refine appS (base := B0) rfl (.tmp 98) (.tmp 104) 39 TRq 3 rfl Tryz.underlying39 infoRq rfl (by decide) _ _ _ _ 0 [] hB5 O2.out rfl rfl (Sl.nil _ _) (by simp) (by decide) (by omega) ?_; intro v3 w6 o3 n3
             obtain ⟨a3, cap3, rfl, _, _, _⟩ := o3.els
             have O3' := Lib.hid o3
             have N3 := Lib.hid (N2.out.trans n3)
             have k33 := N3.out.cell c3' (by show ¬ B0 ≤ b; omega)
             have f33 : w6.frozen? ⟨b, 3, none⟩ = false := by rw [N3.out.frozen hbl (by show ¬ B0 ≤ b; omega)]; exact f3'
             clear o3 n3 k3))
        go_ret
        refine ⟨rfl, ⟨HBW.out, a3, cap3, ?_, ?_⟩, ?_⟩
        · exact (B3.out.mod N3.out (by show ¬ B0 ≤ b; omega)).set 3 (.slice a3 1 cap3)
        · exact owns_mod (S := (· = b)) (O3'.out.mono hbb) ((Mod.refl _ w6).set1 3 _) (fun i hi e => by have := HBW.out; omega)
        · exact ((M3.out.mono (fun _ _ h => h.elim)).trans (N3.out.mono (S' := (· = b)) (fun i hi (h : B0 ≤ i) => by have := HB0.out; omega))).set1 3 _
end Go.Proofs.YtjmfhcliggjdgaaGreatDoor.Fl

/- The reference of flight: Ask that is refused, Done; no condition. -/
namespace Go.Proofs.YtjmfhcliggjdgaaGreatDoor.Fl
open Go Go.RowKit

set_option maxRecDepth 100000 in
set_option maxHeartbeats 2000000 in
theorem refAskE (p k t : Int) (b base : Nat) (most each pat : Int) (ks : List (Int × Rq)) (w : World) (h : RT w b base most each pat ks) (hlen : ks.length ≤ 1000) (hr : Rising ks) (hE : askE most each ks p k t ≠ 0) :
    Calls Tryz.prog 69 #[.pointer (some ⟨b, 0, none⟩), .int .i64 p, .int .i64 k, .int .i64 t] w fun e w' => e = .returned (.int .i64 (askE most each ks p k t)) ∧ Mod (fun _ => False) w w' := by
  by_cases hin : 0 ≤ p ∧ p ≤ 65536 ∧ 0 ≤ k ∧ k ≤ 1023 ∧ 0 ≤ t ∧ t ≤ 1099511627776
  · obtain ⟨i1, i2, i3, i4, i5, i6⟩ := hin
    have e3 : (decide (0 ≤ t) && decide (t ≤ 1099511627776)) = true := by simp [i5, i6]
    have g1 : ¬ p < 0 := by omega
    have g2 : ¬ 65536 < p := by omega
    have g3 : ¬ k < 0 := by omega
    have g4 : ¬ 1023 < k := by omega
    have H := Lib.hid h
    have HR := Lib.hid hr
    cases hthere : lkL ks k with
    | some r =>
      have hA : askE most each ks p k t = 5 := by unfold askE; rw [if_neg (by simp; omega), hthere]; rfl
      rw [hA]
      have hat : rqAt ks k = .agg #[.int .i64 r.p, .int .i64 k, .int .i64 r.t] := by unfold rqAt; rw [hthere]; rfl
      have HA := Lib.hid hat
      have HT := Lib.hid hthere
      clear h hr hE hA hthere i1 i2 i3 i4 i5 i6 hat
      go_enter Tryz.func69, Tryz.ntmps69
      go_wp2_with fail
      refine (refMoment _ _).mono ?_; rw [e3]; rintro e w' ⟨rfl, rfl⟩
      go_wp2_with fail
      refine (refOf _ _ _ _ _ _ _ _ H.out (by omega) HR.out).mono ?_; rw [HT.out, HA.out]; rintro e w1 ⟨rfl, m1⟩
      go_wp2_with fail
      go_ret
      exact ⟨rfl, m1.alloc _⟩
    | none =>
      have hA : askE most each ks p k t = if most ≤ (ks.length : Int) ∨ each ≤ (many ks p : Int) then 3 else 0 := by
        unfold askE; rw [if_neg (by simp; omega), if_neg (by simp [hthere])]
      have hat : rqAt ks k = rq0 := by unfold rqAt; rw [hthere]; rfl
      have hful : most ≤ (ks.length : Int) ∨ each ≤ (many ks p : Int) := by
        by_cases g : most ≤ (ks.length : Int) ∨ each ≤ (many ks p : Int)
        · exact g
        · rw [hA, if_neg g] at hE; exact absurd rfl hE
      rw [hA, if_pos hful]
      have HA := Lib.hid hat
      have HT := Lib.hid hthere
      clear h hr hE hA hthere i1 i2 i3 i4 i5 i6 hat
      by_cases hf : most ≤ (ks.length : Int)
      · clear hful
        go_enter Tryz.func69, Tryz.ntmps69
        go_wp2_with fail
        refine (refMoment _ _).mono ?_; rw [e3]; rintro e w' ⟨rfl, rfl⟩
        go_wp2_with fail
        refine (refOf _ _ _ _ _ _ _ _ H.out (by omega) HR.out).mono ?_; rw [HT.out, HA.out]; rintro e w1 ⟨rfl, m1⟩
        clear g1 g2 g3 g4 e3
        have m2 : Mod (fun _ => False) w (w1.alloc (.cells #[.int .i64 0, .int .i64 0, .int .i64 0] TRq)) := m1.alloc _
        go_wp2_with fail
        have H2 := Lib.hid (H.out.new m2)
        have M2 := Lib.hid m2
        generalize w1.alloc (.cells #[.int .i64 0, .int .i64 0, .int .i64 0] TRq) = w2 at *
        obtain ⟨a, cap, c0, c1, _, c3, f3, he, hb, ho⟩ := H2.out.at
        clear m1 m2
        go_wp2_with fail
        refine wp_region2 [] [94] (by kernel_rfl) (by kernel_rfl) ?_
        repeat (first | (refine reg_anyT (by rfl) (fun K hK => ?_); go_simp; refine hK _ _ ?_; clear hK K) | (refine reg_read (by rfl) (fun K hK => ?_); go_simp; refine hK _ _ ?_; clear hK K))
        refine reg_nil (fun nd => ?_)
        go_wp2_with fail
        go_ret
        exact ⟨rfl, M2.out.drewN _⟩
      · have hg : each ≤ (many ks p : Int) := by
          rcases hful with h | h
          · exact absurd h hf
          · exact h
        clear hful
        go_enter Tryz.func69, Tryz.ntmps69
        go_wp2_with fail
        refine (refMoment _ _).mono ?_; rw [e3]; rintro e w' ⟨rfl, rfl⟩
        go_wp2_with fail
        refine (refOf _ _ _ _ _ _ _ _ H.out (by omega) HR.out).mono ?_; rw [HT.out, HA.out]; rintro e w1 ⟨rfl, m1⟩
        clear g1 g2 g3 g4 e3
        have m2 : Mod (fun _ => False) w (w1.alloc (.cells #[.int .i64 0, .int .i64 0, .int .i64 0] TRq)) := m1.alloc _
        go_wp2_with fail
        have H2 := Lib.hid (H.out.new m2)
        have M2 := Lib.hid m2
        generalize w1.alloc (.cells #[.int .i64 0, .int .i64 0, .int .i64 0] TRq) = w2 at *
        obtain ⟨a, cap, c0, c1, _, c3, f3, he, hb, ho⟩ := H2.out.at
        clear m1 m2
        go_wp2_with fail
        refine wp_region2 [] [94] (by kernel_rfl) (by kernel_rfl) ?_
        repeat (first | (refine reg_anyT (by rfl) (fun K hK => ?_); go_simp; refine hK _ _ ?_; clear hK K) | (refine reg_read (by rfl) (fun K hK => ?_); go_simp; refine hK _ _ ?_; clear hK K))
        refine reg_read (by rfl) (fun K hK => ?_); go_simp
        refine ⟨_, fun rn => rd_same (refMany p _ _ _ _ _ _ _ (H2.out.drewN rn) (by omega)), hK _ _ ?_⟩; clear hK K
        repeat (first | (refine reg_anyT (by rfl) (fun K hK => ?_); go_simp; refine hK _ _ ?_; clear hK K) | (refine reg_read (by rfl) (fun K hK => ?_); go_simp; refine hK _ _ ?_; clear hK K))
        refine reg_nil (fun nd => ?_)
        go_wp2_with fail
        go_ret
        exact ⟨rfl, M2.out.drewN _⟩
  · have hA : askE most each ks p k t = 1 := by unfold askE; rw [if_pos hin]
    rw [hA]
    have HN := Lib.hid hin
    by_cases ht : 0 ≤ t ∧ t ≤ 1099511627776
    · have e3 : (decide (0 ≤ t) && decide (t ≤ 1099511627776)) = true := by simp [ht.1, ht.2]
      have HT := Lib.hid ht
      clear h hr hE hA hin ht
      go_enter Tryz.func69, Tryz.ntmps69
      go_wp2_with fail
      refine (refMoment _ _).mono ?_; rw [e3]; rintro e w' ⟨rfl, rfl⟩
      go_wp2_with fail
      all_goals first | (go_ret; exact ⟨rfl, Mod.refl _ _⟩) | (exfalso; apply HN.out; have := HT.out; omega)
    · have e3 : (decide (0 ≤ t) && decide (t ≤ 1099511627776)) = false := by
        rw [Bool.and_eq_false_iff, decide_eq_false_iff_not, decide_eq_false_iff_not]; omega
      clear h hr hE hA hin ht
      go_enter Tryz.func69, Tryz.ntmps69
      go_wp2_with fail
      refine (refMoment _ _).mono ?_; rw [e3]; rintro e w' ⟨rfl, rfl⟩
      go_wp2_with fail
      all_goals (go_ret; exact ⟨rfl, Mod.refl _ _⟩)

/-- What is left behind a row that is taken out. -/
theorem del_at {α : Type} {ks : List (Int × α)} (hr : Rising ks) {i : Nat} {q : Int × α} (h : ks[i]? = some q) : delL ks q.1 = ks.take i ++ ks.drop (i + 1) := by
  induction ks generalizing i with
  | nil => simp at h
  | cons y t ih =>
    obtain ⟨h1, h2⟩ := List.pairwise_cons.1 hr
    cases i with
    | zero =>
      simp at h
      subst h
      unfold delL
      rw [List.filter_cons, if_neg (by simp)]
      show List.filter _ t = t
      rw [List.filter_eq_self]
      intro x hx
      have := h1 x hx
      simp; omega
    | succ i =>
      have h' : t[i]? = some q := by simpa using h
      have hq := h1 q (List.mem_of_getElem? h')
      have := ih h2 h'
      unfold delL at this ⊢
      rw [List.filter_cons, if_pos (by simp; omega), this]
      rfl

set_option maxRecDepth 100000 in
set_option maxHeartbeats 2000000 in
theorem refDoneNo (k : Int) (b base : Nat) (most each pat : Int) (ks : List (Int × Rq)) (w : World) (h : RT w b base most each pat ks) (hlen : ks.length ≤ 1000) (hno : lkL ks k = none) :
    Calls Tryz.prog 73 #[.pointer (some ⟨b, 0, none⟩), .int .i64 k] w fun e w' => e = .returned (.tuple #[rq0, .int .i64 4]) ∧ Mod (fun _ => False) w w' := by
  obtain ⟨a, cap, _, _, _, c3, _, he, _, _⟩ := h.at
  have HN := Lib.hid (lk_none.1 hno)
  have hb : b < w.heap.size := World.block_lt_of_cell? w _ c3
  clear h hno
  go_enter Tryz.func73, Tryz.ntmps73
  go_wp2_with fail
  have m1 : Mod (fun _ => False) w (w.alloc (.cells #[.int .i64 0, .int .i64 0, .int .i64 0] TRq)) := (Mod.refl _ w).alloc _
  have B1 := Lib.hid (Blk.new w #[.int .i64 0, .int .i64 0, .int .i64 0] TRq)
  have E1 := Lib.hid (he.out.new m1)
  have k3 := m1.cell c3 (fun h => h)
  have M1 := Lib.hid m1
  generalize w.alloc (.cells #[.int .i64 0, .int .i64 0, .int .i64 0] TRq) = w1 at *
  obtain ⟨B, hB⟩ : ∃ B, B = w.heap.size := ⟨_, rfl⟩
  rw [← hB] at B1 hb ⊢
  have HB := Lib.hid hB
  clear he hB c3 m1
  go_loopw [6] (fun v wr => ∃ j : Nat, v = .int .i64 j ∧ j ≤ ks.length ∧ wr = w1) (fun v _ => ks.length - (intOf v).toNat)
  case atStart => exact ⟨0, rfl, Nat.zero_le _, rfl⟩
  case round =>
    obtain ⟨j, rfl, hk, rfl⟩ := hrel
    by_cases hlt : (j : Int) < ks.length
    · obtain ⟨⟨x, r⟩, hkr⟩ : ∃ q, ks[j]? = some q := ⟨_, List.getElem?_eq_getElem (by omega)⟩
      obtain ⟨X, rfl, p0, p1, p2⟩ := rqEl E1.out (Nat.le_refl _) hkr
      have e' : (x == k) = false := by have := HN.out (x, r) (List.mem_of_getElem? hkr); simpa using this
      clear hkr
      go_wp2_with fail
      exact ⟨⟨j + 1, by go_num, by omega, by first | trivial | rfl⟩, by simp [intOf]; omega⟩
    · have f0 := B1.out.frozen 0; have f1 := B1.out.frozen 1; have f2 := B1.out.frozen 2
      have x0 := B1.out.cell 0; have x1 := B1.out.cell 1; have x2 := B1.out.cell 2
      have d0 := (B1.out.set 0 (.int .i64 0)).cell 0
      have d1 := ((B1.out.set 0 (.int .i64 0)).set 1 (.int .i64 0)).cell 1
      have d2 := (((B1.out.set 0 (.int .i64 0)).set 1 (.int .i64 0)).set 2 (.int .i64 0)).cell 2
      have D0 := Lib.hid d0; have D1 := Lib.hid d1; have D2 := Lib.hid d2
      clear d0 d1 d2
      go_wp2_with fail
      refine bodyPost_ret (v := .tuple #[.agg #[.int .i64 0, .int .i64 0, .int .i64 0], .int .i64 4]) (by simp [results, Tryz.results73, go_sem, D0.out, D1.out, D2.out]) rfl ⟨rfl, ?_⟩
      exact ((M1.out.setCell (.inr (Nat.le_of_eq HB.out.symm)) _).setCell (.inr (Nat.le_of_eq HB.out.symm)) _).setCell (.inr (Nat.le_of_eq HB.out.symm)) _
end Go.Proofs.YtjmfhcliggjdgaaGreatDoor.Fl
