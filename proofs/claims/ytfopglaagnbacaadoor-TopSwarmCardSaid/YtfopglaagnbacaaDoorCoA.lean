/- The laws on conn: what is known and what is on the way, the program's swarm, what a step of it leaves; no condition. -/
import Derived.Test.YtfopglaagnbacaaDoorRcA
import Derived.Test.YtfopglaagnbacaaDoorFwA
namespace Go.Proofs.YtfopglaagnbacaaDoor
open Go Go.RowKit

abbrev LT := List (Int × Fl.Rq)
/-- What is not to be asked for. -/
def outF (n : Nat) (f : Nat → Bool) (T : LT) : Nat → Bool := fun i => decide (i < n) && (f i || (lkL T (i : Int)).isSome)
theorem lk_append {α : Type} (a b : List (Int × α)) (k : Int) : lkL (a ++ b) k = (lkL a k).or (lkL b k) := by
  unfold lkL
  rw [List.find?_append]
  cases a.find? fun p => p.1 == k <;> rfl
theorem outF_nil (n : Nat) (f : Nat → Bool) (i : Nat) (h : ∀ i, n ≤ i → f i = false) : outF n f [] i = f i := by
  unfold outF
  by_cases hi : i < n
  · simp [hi, lkL]
  · simp [hi, h i (by omega)]
theorem outF_snoc (n : Nat) (f : Nat → Bool) (T : LT) (j : Nat) (r : Fl.Rq) (hj : j < n) : outF n f (T ++ [((j : Int), r)]) = fil (outF n f T) j (j + 1) true := by
  funext i
  unfold outF fil
  rw [lk_append]
  by_cases e : i = j
  · subst e
    rw [if_pos (by omega)]
    simp [hj, lkL]
  · rw [if_neg (by omega)]
    have : lkL [((j : Int), r)] (i : Int) = none := by unfold lkL; rw [List.find?_eq_none.2 (by simp; omega)]; rfl
    rw [this, Option.or_none]
theorem outF_put (n : Nat) (f : Nat → Bool) (T : LT) (j : Nat) (r : Fl.Rq) (hj : j < n) : outF n f (putL T (j : Int) r) = fil (outF n f T) j (j + 1) true := by
  funext i
  unfold outF fil
  by_cases e : i = j
  · subst e
    rw [if_pos (by omega), lk_put, if_pos rfl]
    simp [hj]
  · rw [if_neg (by omega), lk_put, if_neg (by omega)]
theorem outF_out (n : Nat) (f : Nat → Bool) (T : LT) (i : Nat) (h : n ≤ i) : outF n f T i = false := by
  unfold outF
  rw [decide_eq_false (by omega)]; rfl

theorem rqL_put (l : LT) (x : Int) (r : Fl.Rq) : Fl.rqL (l ++ [(x, r)]) = Fl.rqL l ++ [.int .i64 r.p, .int .i64 x, .int .i64 r.t] := by unfold Fl.rqL; rw [List.flatMap_append]; rfl
theorem Mod.trans2 {A B : Nat → Prop} {a b c : World} (h : Mod A a b) (k : Mod B b c) (hS : ∀ i, B i → A i ∨ a.heap.size ≤ i) : Mod A a c :=
  ⟨k.os.trans h.os, k.tape.trans h.tape, k.output.trans h.output, Nat.le_trans h.size k.size, fun i hi hs => (k.block i (Nat.lt_of_lt_of_le hi h.size) fun e => (hS i e).elim hs (by omega)).trans (h.block i hi hs)⟩
/-- The blocks of the program's swarm. -/
def SWb (s b M g t tM : Nat) (ks : List (Int × Ow)) (i : Nat) : Prop := i = s ∨ BDb b M g ks i ∨ i = t ∨ i = tM
/-- The program's swarm. -/
structure SW (w : World) (s b M g t tM n : Nat) (pm mo ea pa : Int) (ks : List (Int × Ow)) (T : LT) : Prop where
  blk : Blk w s #[.int .i64 n, .pointer (some ⟨b, 0, none⟩), .pointer (some ⟨t, 0, none⟩)] 56
  bd : BD w b M g n pm (cO ks) ks
  tb : Fl.TB w t tM mo ea pa T
  s1 : ¬ BDb b M g ks s
  s2 : s ≠ t ∧ s ≠ tM
  s3 : ¬ BDb b M g ks t ∧ ¬ BDb b M g ks tM
theorem SW.lt {w : World} {s b M g t tM n : Nat} {pm mo ea pa : Int} {ks : List (Int × Ow)} {T : LT} (h : SW w s b M g t tM n pm mo ea pa ks T) {i : Nat} (hi : SWb s b M g t tM ks i) : i < w.heap.size := by
  rcases hi with rfl | hi | rfl | rfl
  · exact h.blk.lt
  · exact h.bd.lt hi
  · exact h.tb.lt.1
  · exact h.tb.lt.2
theorem SW.mod {S : Nat → Prop} {w w' : World} {s b M g t tM n : Nat} {pm mo ea pa : Int} {ks : List (Int × Ow)} {T : LT} (h : SW w s b M g t tM n pm mo ea pa ks T) (hm : Mod S w w') (hS : ∀ i, SWb s b M g t tM ks i → ¬ S i) : SW w' s b M g t tM n pm mo ea pa ks T :=
  ⟨h.blk.mod hm (hS _ (.inl rfl)), h.bd.mod hm fun i hi => hS i (.inr (.inl hi)), h.tb.mod hm (hS _ (.inr (.inr (.inl rfl)))) (hS _ (.inr (.inr (.inr rfl)))), h.s1, h.s2, h.s3⟩
theorem SW.new {w w' : World} {s b M g t tM n : Nat} {pm mo ea pa : Int} {ks : List (Int × Ow)} {T : LT} (h : SW w s b M g t tM n pm mo ea pa ks T) (hm : Mod (fun _ => False) w w') : SW w' s b M g t tM n pm mo ea pa ks T := h.mod hm fun _ _ h => h
theorem SW.drewN {w : World} {s b M g t tM n : Nat} {pm mo ea pa : Int} {ks : List (Int × Ow)} {T : LT} (h : SW w s b M g t tM n pm mo ea pa ks T) (k : Nat) : SW (w.drewN k) s b M g t tM n pm mo ea pa ks T := h.new ((Mod.refl _ w).drewN k)
/-- The table alone is written. -/
theorem SW.tmod {w w' : World} {s b M g t tM n : Nat} {pm mo ea pa : Int} {ks : List (Int × Ow)} {T T1 : LT} (h : SW w s b M g t tM n pm mo ea pa ks T) (ht : Fl.TB w' t tM mo ea pa T1) (hm : Mod (· = tM) w w') : SW w' s b M g t tM n pm mo ea pa ks T1 :=
  ⟨h.blk.mod hm h.s2.2, h.bd.mod hm fun i hi e => h.s3.2 (by rw [← e]; exact hi), ht, h.s1, h.s2, h.s3⟩
/-- What a step of the program leaves. -/
def StS (s b M g t tM n : Nat) (pm mo ea pa : Int) (ks : List (Int × Ow)) (L1 : LB) (T1 : LT) (w w' : World) : Prop :=
  ∃ k1, SW w' s b M g t tM n pm mo ea pa k1 T1 ∧ mapV Ow.f k1 = L1 ∧ Mod (SWb s b M g t tM ks) w w' ∧ ∀ i, SWb s b M g t tM k1 i → SWb s b M g t tM ks i ∨ w.heap.size ≤ i
theorem StS.tmod {w w' : World} {s b M g t tM n : Nat} {pm mo ea pa : Int} {ks : List (Int × Ow)} {L : LB} {T T1 : LT} (h : SW w s b M g t tM n pm mo ea pa ks T) (he : mapV Ow.f ks = L) (ht : Fl.TB w' t tM mo ea pa T1) (hm : Mod (· = tM) w w') : StS s b M g t tM n pm mo ea pa ks L T1 w w' :=
  ⟨ks, h.tmod ht hm, he, hm.mono fun _ _ e => .inr (.inr (.inr e)), fun _ hi => .inl hi⟩
theorem StS.same {w w' : World} {s b M g t tM n : Nat} {pm mo ea pa : Int} {ks : List (Int × Ow)} {L : LB} {T : LT} (h : SW w s b M g t tM n pm mo ea pa ks T) (he : mapV Ow.f ks = L) (hm : Mod (fun _ => False) w w') : StS s b M g t tM n pm mo ea pa ks L T w w' :=
  ⟨ks, h.new hm, he, hm.mono fun _ _ e => e.elim, fun _ hi => .inl hi⟩
/-- The board alone is written. -/
theorem StS.board {w w' : World} {s b M g t tM n : Nat} {pm mo ea pa : Int} {ks : List (Int × Ow)} {L1 : LB} {T : LT} (h : SW w s b M g t tM n pm mo ea pa ks T) (hc : CodeP b M g n pm ks L1 w w') : StS s b M g t tM n pm mo ea pa ks L1 T w w' := by
  obtain ⟨k1, hbd, he, hm, hnew⟩ := hc
  have hold : ∀ i, SWb s b M g t tM ks i → BDb b M g k1 i → BDb b M g ks i := fun i hi hb => (hnew i hb).elim id fun e => by have := h.lt hi; omega
  refine ⟨k1, ⟨h.blk.mod hm h.s1, hbd, h.tb.mod hm h.s3.1 h.s3.2, fun e => h.s1 (hold _ (.inl rfl) e), h.s2, fun e => h.s3.1 (hold _ (.inr (.inr (.inl rfl))) e), fun e => h.s3.2 (hold _ (.inr (.inr (.inr rfl))) e)⟩, he, hm.mono fun _ _ e => .inr (.inl e), fun i hi => ?_⟩
  rcases hi with e | e | e | e
  · exact .inl (.inl e)
  · exact (hnew i e).imp (fun e => .inr (.inl e)) id
  · exact .inl (.inr (.inr (.inl e)))
  · exact .inl (.inr (.inr (.inr e)))
theorem StS.trans {w w1 w' : World} {s b M g t tM n : Nat} {pm mo ea pa : Int} {ks k1 : List (Int × Ow)} {L2 : LB} {T2 : LT} (hm : Mod (SWb s b M g t tM ks) w w1) (hn : ∀ i, SWb s b M g t tM k1 i → SWb s b M g t tM ks i ∨ w.heap.size ≤ i) (h2 : StS s b M g t tM n pm mo ea pa k1 L2 T2 w1 w') : StS s b M g t tM n pm mo ea pa ks L2 T2 w w' := by
  obtain ⟨k2, h3, e, m2, n2⟩ := h2
  refine ⟨k2, h3, e, hm.trans2 m2 hn, fun i hi => ?_⟩
  rcases n2 i hi with h | h
  · exact hn i h
  · exact .inr (Nat.le_trans hm.size h)
end Go.Proofs.YtfopglaagnbacaaDoor
