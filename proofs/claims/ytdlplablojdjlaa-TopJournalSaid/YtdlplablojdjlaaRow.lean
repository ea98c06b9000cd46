/- 'append' to a slice of the call's own: where the new slice lies; in regions that draw their order too; no condition. -/
import Derived.Test.YtdlplablojdjlaaReg
import Derived.Test.YtdlplablojdjlaaEls
import Derived.Test.YtdlplablojdjlaaApp3
import Derived.Maps.AppendAt
import Derived.Laws.CopyRow
namespace Go.Proofs.Ytdlplablojdjlaa
open Go Go.RowKit

section
variable {P : Program}
theorem run_app {w : World} {base : Nat} (t ty e : TypeId) (size : Nat) (ht : P.underlying t = some (.slice e)) {z : Value} {bytes : Nat} (hi : (P.info? e).map (fun i => (i.zero, i.size, i.bytes)) = some (some z, size, bytes)) (hzs : z.cells.size = size) (h0 : 0 < size)
    (v : Value) (n : Nat) (xs : List Value) (sv : Value) (m : Nat) (news : List Value) (hbase : base ≤ w.heap.size) (hown : w.ownsRow base e size v n xs) (hnews : Sl w sv size m news)
    (h1 : ∀ u ∈ news, u.oneCell' = true) (hb0 : 0 < bytes) (hbytes : (n + m) * bytes ≤ 140737488355328) :
    ∃ v' w', (Builtin.append_ #[t, t] ty #[v, sv]).run P w = .ok v' w' ∧ w'.ownsRow base e size v' (n + m) (xs ++ news) ∧ Mod (fun i => v.ownBlock = some i) w w' ∧ (v'.ownBlock = v.ownBlock ∨ v'.ownBlock = some w.heap.size) := by
  obtain ⟨i0, hi, hz0, hz1, hz2⟩ := info_parts hi
  rcases hnews with ⟨rfl, rfl, rfl⟩ | ⟨ad, c, rfl, hl, hc⟩
  · exact ⟨v, w, run_append_owned_none (P := P) (w := w) base t ty e i0 size ht hi v n xs hown, by simpa using hown, Mod.refl _ w, .inl rfl⟩
  · have h63 : n + m ≤ maxLen := by
      have : n + m ≤ (n + m) * bytes := Nat.le_mul_of_pos_right _ hb0
      unfold maxLen; omega
    obtain ⟨v', w', hr, h2, h3, _, h5⟩ := run_append_own_at (P := P) w base t ty e i0 z size bytes ht hi hz0 hz1 hz2 hzs h0 v n xs hown ad m c news hl hc h1 h63 hbytes hbase
    exact ⟨v', w', hr, h2, (Mod.refl _ w).grown h3 fun k hk => .inl hk, h5⟩
/-- 'append(v, sv...)'. -/
theorem app1 {w : World} {base : Nat} {ops : Array Oper} {rest : List Oper} {o : Oper} {a : Act} {Q : Exit → Act → World → Prop} (hgd : o.guard = none) (s x : Operand) (t e : TypeId) (size : Nat)
    (ho : o.op = .call { callee := .builtin .append, args := #[s, x], argTypes := #[t, t] }) (ht : P.underlying t = some (.slice e)) {z : Value} {bytes : Nat} (hi : (P.info? e).map (fun i => (i.zero, i.size, i.bytes)) = some (some z, size, bytes)) (hzs : z.cells.size = size) (h0 : 0 < size)
    (v : Value) (n : Nat) (xs : List Value) (sv : Value) (m : Nat) (news : List Value) (hbase : base ≤ w.heap.size) (hown : w.ownsRow base e size v n xs) (hs : a.eval s = v) (hx : a.eval x = sv) (hnews : Sl w sv size m news)
    (h1 : ∀ u ∈ news, u.oneCell' = true) (hb0 : 0 < bytes) (hbytes : (n + m) * bytes ≤ 140737488355328)
    (h : ∀ v' w', w'.ownsRow base e size v' (n + m) (xs ++ news) → Mod (fun i => v.ownBlock = some i) w w' → (v'.ownBlock = v.ownBlock ∨ v'.ownBlock = some w.heap.size) → wpList P ops Q rest (a.put o.dst v') w') : wpList P ops Q (o :: rest) a w := by
  obtain ⟨v', w', hr, h2, h3, h4⟩ := run_app (P := P) t o.type e size ht hi hzs h0 v n xs sv m news hbase hown hnews h1 hb0 hbytes
  refine wpList_plain hgd fun K hK => ?_
  unfold Oper.wp execOp
  simp only [ho, resolve, invoke, builtin, Sem.run_bind, Sem.run_pure, Result.andThen_ok, List.map_toArray, List.map_cons, List.map_nil, hs, hx, hr]
  exact hK _ _ (h v' w' h2 h3 h4)
/-- .. in a region that draws its order (kind 2). -/
theorem reg_app {ops : Array Oper} {S : World → Prop} {ov : List (Nat × Nat)} {rd : List FuncId} {Q : World → Act → Prop} {i : Nat} {o : Oper} {rest : List Oper} {w : World} {a : Act} {base : Nat}
    (hk : kd ov rd i o = 2) (hw : Region.wanted o (yielded ops a.tmps) = true) (s x : Operand) (t e : TypeId) (size : Nat)
    (ho : o.op = .call { callee := .builtin .append, args := #[s, x], argTypes := #[t, t] }) (ht : P.underlying t = some (.slice e)) {z : Value} {bytes : Nat} (hi : (P.info? e).map (fun i => (i.zero, i.size, i.bytes)) = some (some z, size, bytes)) (hzs : z.cells.size = size) (h0 : 0 < size)
    (v : Value) (n : Nat) (xs : List Value) (sv : Value) (m : Nat) (news : List Value) (hbase : base ≤ w.heap.size) (hown : w.ownsRow base e size v n xs) (hs : a.eval s = v) (hx : a.eval x = sv) (hnews : Sl w sv size m news)
    (h1 : ∀ u ∈ news, u.oneCell' = true) (hb0 : 0 < bytes) (hbytes : (n + m) * bytes ≤ 140737488355328)
    (h : ∀ v' w', w'.ownsRow base e size v' (n + m) (xs ++ news) → Mod (fun i => v.ownBlock = some i) w w' → (v'.ownBlock = v.ownBlock ∨ v'.ownBlock = some w.heap.size) → (∀ m, S (w'.drewN m)) ∧ wpReg P ops S ov rd Q (i + 1) rest w' (a.put o.dst v')) : wpReg P ops S ov rd Q i (o :: rest) w a := by
  refine reg_effS hk fun rn K hK => ?_
  obtain ⟨v', w', hr, h2, h3, h4⟩ := run_app (P := P) (w := w.drewN rn) t o.type e size ht hi hzs h0 v n xs sv m news hbase (by
    obtain ⟨o1, o2⟩ := hown
    rcases o2 with o2 | ⟨g, cap, cur, hv, hb, hh, rest⟩
    · exact ⟨o1, .inl o2⟩
    · exact ⟨o1, .inr ⟨g, cap, cur, hv, hb, hh, rest⟩⟩) (hnews.drewN rn) h1 hb0 hbytes
  unfold eOf
  rw [if_pos hw]
  unfold execOp
  simp only [ho, resolve, invoke, builtin, Sem.run_bind, Sem.run_pure, Result.andThen_ok, List.map_toArray, List.map_cons, List.map_nil, hs, hx, hr]
  exact hK _ _ (h v' w' h2 h3.undrew h4)
/-- 'append' to a slice of no room: what was there stays as it is. -/
theorem run_app0 {w : World} {base : Nat} (t ty e : TypeId) (size : Nat) (ht : P.underlying t = some (.slice e)) {z : Value} {bytes : Nat} (hi : (P.info? e).map (fun i => (i.zero, i.size, i.bytes)) = some (some z, size, bytes)) (hzs : z.cells.size = size) (h0 : 0 < size)
    (g : Nat) (sv : Value) (m : Nat) (news : List Value) (hbase : base ≤ g) (hg : Blk w g #[] e) (hnews : Sl w sv size m news)
    (h1 : ∀ u ∈ news, u.oneCell' = true) (hb0 : 0 < bytes) (hbytes : m * bytes ≤ 140737488355328) :
    ∃ v' w', (Builtin.append_ #[t, t] ty #[.slice (some ⟨g, 0, none⟩) 0 0, sv]).run P w = .ok v' w' ∧ w'.ownsRow base e size v' m news ∧ Mod (fun _ => False) w w' ∧ (v'.ownBlock = some g ∨ v'.ownBlock = some w.heap.size) := by
  obtain ⟨i0, hi', hz0, hz1, hz2⟩ := info_parts hi
  have hown : w.ownsRow base e size (.slice (some ⟨g, 0, none⟩) 0 0) 0 [] := ⟨by simp, .inr ⟨g, 0, #[], rfl, hbase, hg, Nat.le_refl _, Nat.zero_le _, by simp, by simp⟩⟩
  rcases hnews with ⟨rfl, rfl, rfl⟩ | ⟨ad, c, rfl, hl, hc⟩
  · exact ⟨_, w, run_append_owned_none (P := P) (w := w) base t ty e i0 size ht hi' _ 0 [] hown, hown, Mod.refl _ w, .inl rfl⟩
  · have h63 : m ≤ maxLen := by
      have : m ≤ m * bytes := Nat.le_mul_of_pos_right _ hb0
      unfold maxLen; omega
    by_cases hm : m = 0
    · subst hm
      have hn : news = [] := List.eq_nil_of_length_eq_zero (by simpa using hl)
      subst hn
      have hr := run_append_room (P := P) w t ty e i0 ht hi' g 0 0 #[] hg ad 0 c [] (by simp) hc h1 (Nat.le_refl _) (by simp)
      simp only [Nat.zero_mul, List.take_nil, List.nil_append, List.drop_nil, Nat.add_zero] at hr
      rw [setRow_self w g #[] e (0, 0) hg] at hr
      exact ⟨_, w, hr, hown, Mod.refl _ w, .inl rfl⟩
    · subst hz1
      subst hz2
      have hr := run_append_grow (P := P) w t ty e i0 z ht hi' hz0 ⟨g, 0, none⟩ 0 0 [] (by simp) (fun j u h => by simp at h) ad m c news hl hc (by omega) (by unfold maxLen at h63; omega) (growslice_fits (by omega) (by simpa using hbytes))
      have hgr : (w.drew.alloc (.cells (#[] ++ news.toArray ++ Builtin.zeroCells z.cells (grownCap w (0 + m) 0 e - (0 + m))) e)).ownsRow base e i0.size (.slice (some ⟨w.heap.size, 0, none⟩) (0 + m) (grownCap w (0 + m) 0 e)) m news := by
        have hge := grownCap_ge w (0 + m) 0 e
        have hcm : grownCap w (0 + m) 0 e ≤ maxLen := grownCap_le_maxLen w (0 + m) 0 e (by omega)
        refine ⟨hl, .inr ⟨w.heap.size, grownCap w (0 + m) 0 e, _, by simp, Nat.le_of_lt (Nat.lt_of_le_of_lt hbase hg.lt), heap_alloc_new w.drew _, by omega, hcm, ?_, ?_⟩⟩
        · simp only [Array.size_append, List.size_toArray, size_zeroCells, hzs, hl]
          generalize grownCap w (0 + m) 0 e = G at hge ⊢
          rw [List.length_nil, Nat.zero_add, Nat.zero_add, ← Nat.add_mul]
          congr 1
          omega
        · simp only [Array.toList_append, List.nil_append]
          rw [← hl]
          exact List.take_left
      exact ⟨_, _, hr, hgr, ⟨rfl, rfl, rfl, by simp, fun k hk _ => heap_alloc_old w.drew _ hk⟩, .inr rfl⟩
theorem reg_app0 {ops : Array Oper} {ov : List (Nat × Nat)} {rd : List FuncId} {Q : World → Act → Prop} {i : Nat} {o : Oper} {rest : List Oper} {w : World} {a : Act} {base : Nat}
    (hk : kd ov rd i o = 4) (hw : Region.wanted o (yielded ops a.tmps) = true) (s x : Operand) (t e : TypeId) (size : Nat)
    (ho : o.op = .call { callee := .builtin .append, args := #[s, x], argTypes := #[t, t] }) (ht : P.underlying t = some (.slice e)) {z : Value} {bytes : Nat} (hi : (P.info? e).map (fun i => (i.zero, i.size, i.bytes)) = some (some z, size, bytes)) (hzs : z.cells.size = size) (h0 : 0 < size)
    (g : Nat) (sv : Value) (m : Nat) (news : List Value) (hbase : base ≤ g) (hg : Blk w g #[] e) (hs : a.eval s = .slice (some ⟨g, 0, none⟩) 0 0) (hx : a.eval x = sv) (hnews : Sl w sv size m news)
    (h1 : ∀ u ∈ news, u.oneCell' = true) (hb0 : 0 < bytes) (hbytes : m * bytes ≤ 140737488355328)
    (h : ∀ v' w', w'.ownsRow base e size v' m news → Mod (fun _ => False) w w' → (v'.ownBlock = some g ∨ v'.ownBlock = some w.heap.size) → wpReg P ops (fun _ => True) ov rd Q (i + 1) rest w' (a.put o.dst v')) : wpReg P ops (fun _ => True) ov rd Q i (o :: rest) w a := by
  refine reg_new hk fun rn K hK => ?_
  obtain ⟨v', w', hr, h2, h3, h4⟩ := run_app0 (P := P) (w := w.drewN rn) t o.type e size ht hi hzs h0 g sv m news hbase hg (hnews.drewN rn) h1 hb0 hbytes
  unfold eOf
  rw [if_pos hw]
  unfold execOp
  simp only [ho, resolve, invoke, builtin, Sem.run_bind, Sem.run_pure, Result.andThen_ok, List.map_toArray, List.map_cons, List.map_nil, hs, hx, hr]
  exact hK _ _ ⟨h3.undrew.ex (n := 0), h v' w' h2 h3.undrew h4⟩
/-- An operation that is quiet in every world of the class (kind 0): a load of one cell. -/
theorem reg_loadS {ops : Array Oper} {S : World → Prop} {ov : List (Nat × Nat)} {rd : List FuncId} {Q : World → Act → Prop} {i : Nat} {o : Oper} {rest : List Oper} {w : World} {a : Act}
    (hk : kd ov rd i o = 0) (hw : Region.wanted o (yielded ops a.tmps) = true) (v : Value) (t : TypeId) (x : Operand) (p : Addr) (ho : o.op = .load t x) (hx : a.eval x = .pointer (some p)) (ht : ∀ w, (isAgg t).run P w = .ok false w) (hc : ∀ w, S w → w.cell? p = some v)
    (h : wpReg P ops S ov rd Q (i + 1) rest w (a.put o.dst v)) : wpReg P ops S ov rd Q i (o :: rest) w a := by
  refine reg_any hk fun K hK => ?_
  unfold qOf
  rw [if_pos hw]
  refine ⟨v, fun w' hs => ?_, hK _ _ h⟩
  simp [execOp, ho, hx, Instr.loadAt, Instr.sureAddr, loadVar, load, Sem.run, hc w' hs, ht, Result.andThen, valUpon]
end
/-- Two slices of the call's own that never share a row. -/
def Apart (v v' : Value) : Prop := ∀ k, v.ownBlock = some k → v'.ownBlock ≠ some k
theorem Apart.symm {v v' : Value} (h : Apart v v') : Apart v' v := fun k h1 h2 => h k h2 h1
theorem Apart.nil (v : Value) : Apart (.slice none 0 0) v := fun k h => by cases h
/-- Behind an append to v: it is apart from u yet. -/
theorem Apart.step {w : World} {base : Nat} {e : TypeId} {K : Nat} {u v v' : Value} {n : Nat} {xs : List Value} (h : Apart v u) (ho : w.ownsRow base e K u n xs) {B : Nat} (hB : w.heap.size ≤ B) (hv : v'.ownBlock = v.ownBlock ∨ v'.ownBlock = some B) : Apart v' u := by
  intro k hk hu
  rcases hv with hv | hv
  · exact h k (hv.symm.trans hk) hu
  · rw [hv] at hk
    cases hk
    have := (ho.lt B hu).2
    omega
/-- A slice that another one's append leaves. -/
theorem owns_apart {w w' : World} {base : Nat} {e : TypeId} {size : Nat} {v u : Value} {n : Nat} {xs : List Value} (h : w.ownsRow base e size u n xs) (hm : Mod (fun i => v.ownBlock = some i) w w') (ha : Apart v u) : w'.ownsRow base e size u n xs := by
  obtain ⟨h1, h2⟩ := h
  rcases h2 with h2 | ⟨g, cap, cur, hv, hb, hh, rest⟩
  · exact ⟨h1, .inl h2⟩
  · exact ⟨h1, .inr ⟨g, cap, cur, hv, hb, (show Blk w g cur e from hh).mod hm (fun h => ha g h (by rw [hv]; rfl)), rest⟩⟩
/-- .. whatever of the blocks that were not there turns besides. -/
theorem Mod.also {S T : Nat → Prop} {a b c : World} (h : Mod S a b) (k : Mod T b c) (hT : ∀ i, T i → S i ∨ a.heap.size ≤ i) : Mod S a c :=
  ⟨k.os.trans h.os, k.tape.trans h.tape, k.output.trans h.output, Nat.le_trans h.size k.size, fun i hi hs => (k.block i (Nat.lt_of_lt_of_le hi h.size) (fun e => by rcases hT i e with h1 | h1; exact hs h1; omega)).trans (h.block i hi hs)⟩
theorem owns_modG {S : Nat → Prop} {w w' : World} {base : Nat} {e : TypeId} {size : Nat} {v : Value} {n : Nat} {xs : List Value} (h : w.ownsRow base e size v n xs) (hm : Mod S w w') (hS : ∀ i, base ≤ i → ¬ S i) : w'.ownsRow base e size v n xs := by
  obtain ⟨h1, h2⟩ := h
  rcases h2 with h2 | ⟨g, cap, cur, hv, hb, hh, rest⟩
  · exact ⟨h1, .inl h2⟩
  · exact ⟨h1, .inr ⟨g, cap, cur, hv, hb, (show Blk w g cur e from hh).mod hm (hS g hb), rest⟩⟩
theorem own_ge {w : World} {base : Nat} {e : TypeId} {size : Nat} {u : Value} {n : Nat} {xs : List Value} (h : w.ownsRow base e size u n xs) : ∀ i, u.ownBlock = some i → base ≤ i := fun i hi => (h.lt i hi).1
end Go.Proofs.Ytdlplablojdjlaa
