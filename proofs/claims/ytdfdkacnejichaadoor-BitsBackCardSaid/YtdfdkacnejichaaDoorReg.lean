/- A region that draws its order, walked once in the order of the text, from one world to the next, though some of its operations write: for every region that passes a test on its edges (regB); no other condition. -/
import Derived.WalkKit
import Derived.Still
import Derived.Deep.Draws
import Derived.Deep.Quiet
import Derived.Deep.QuietTactic
import Derived.Test.YtdfdkacnejichaaDoorStage
import Derived.Test.YtdfdkacnejichaaDoorKit
namespace Go.Proofs.YtdfdkacnejichaaDoor
open Go

section
variable {P : Program} {ops : Array Oper} {md : Region.Mode} {S : World → Prop}

/-- An operation that does not call: it yields v in the very world that it got. -/
def valUpon (w : World) (v : Value) : Result Next → Prop
  | .ok (.value u) w' => w' = w ∧ u = v
  | .ok .skip w' => w' = w ∧ v = undef
  | _ => False
/-- An operation that may turn the world. -/
def effNext (P : Program) (o : Oper) (a : Act) (K : World → Act → Prop) : Result Next → Prop
  | .ok (.value u) w' => K w' (a.put o.dst u)
  | .ok .skip w' => K w' (a.put o.dst undef)
  | .ok (.enter f args) w' => Calls P f args w' (fun | .returned v, w'' => K w'' (a.put o.dst v) | _, _ => False)
  | _ => False
/-- A world that has all that w has, but for draws, and maybe new memory. -/
def Ex (w w' : World) : Prop := w.heap.size ≤ w'.heap.size ∧ ∀ k, k < w.heap.size → w'.heap[k]? = w.heap[k]?
theorem Ex.refl (w : World) : Ex w w := ⟨Nat.le_refl _, fun _ _ => rfl⟩
theorem Ex.trans {a b c : World} (h : Ex a b) (k : Ex b c) : Ex a c := ⟨Nat.le_trans h.1 k.1, fun j hj => (k.2 j (Nat.lt_of_lt_of_le hj h.1)).trans (h.2 j hj)⟩

/-- What a quiet operation yields: kind 0: in every world of S (no call); 1: in the world at hand, but for draws; 3: in every world that has it, and maybe new memory. -/
def qv (P : Program) (S : World → Prop) (k : Nat) (o : Oper) (w : World) (a : Act) (v : Value) : Prop :=
  match k with
  | 0 => ∀ w', S w' → valUpon w' v ((execOp a.eval o).run P w')
  | 1 => ∀ n, o.quietAt P a (fun w' => ∃ m, w' = w.drewN m) (w.drewN n) v
  | _ => ∀ w', Ex w w' → o.quietAt P a (fun w'' => ∃ m, w'' = w'.drewN m) w' v
/-- What an operation that writes leaves (kinds 2 and, if it makes new memory alone, 4). -/
def ev (P : Program) (S : World → Prop) (k : Nat) (o : Oper) (K : World → Act → Prop) (w : World) (a : Act) : Prop :=
  ∀ n, effNext P o a (fun w' a' => ((∀ m, S (w'.drewN m)) ∧ (k = 4 → Ex w w')) ∧ K w' a') ((execOp a.eval o).run P (w.drewN n))
def op2 (P : Program) (ops : Array Oper) (S : World → Prop) (k : Nat) (o : Oper) (K : World → Act → Prop) (w : World) (a : Act) : Prop :=
  if Region.wanted o (yielded ops a.tmps) then
    (if k = 0 ∨ k = 1 ∨ k = 3 then ∃ v, qv P S k o w a v ∧ K w (a.put o.dst v) else ev P S k o K w a)
  else K w (a.put o.dst undef)

/-- The kind of an operation, if none is given: ov: kinds by place; rd: the functions that only read. -/
def kindOf (rd : List FuncId) (o : Oper) : Nat :=
  match o.op with
  | .move _ => 0 | .assign _ => 0 | .pick _ _ _ => 0 | .binOp _ _ _ _ _ => 0 | .unOp _ _ _ => 0 | .fieldAddr _ _ _ => 0 | .field _ _ _ => 0 | .indexAddr _ _ _ => 0 | .nilCheck _ => 0
  | .extract _ _ => 0 | .slice _ _ _ _ _ => 0 | .build _ _ => 0
  | .load _ _ => 1 | .index _ _ _ => 1 | .lookup _ _ _ _ => 1 | .convert _ _ _ => 1
  | .call c => (match c.callee with
    | .value (.func f) => if rd.contains f then 1 else 2
    | .builtin .len => 1 | .builtin .cap => 0 | .builtin .min => 0 | .builtin .max => 0
    | _ => 2)
  | _ => 2
def kd (ov : List (Nat × Nat)) (rd : List FuncId) (i : Nat) (o : Oper) : Nat := (ov.lookup i).getD (kindOf rd o)

def wpReg (P : Program) (ops : Array Oper) (S : World → Prop) (ov : List (Nat × Nat)) (rd : List FuncId) (Q : World → Act → Prop) : Nat → List Oper → World → Act → Prop
  | _, [], w, a => Q w a
  | i, o :: rest, w, a => op2 P ops S (kd ov rd i o) o (wpReg P ops S ov rd Q (i + 1) rest) w a

/-! ### Two operations may be exchanged -/
theorem valUpon_unique {w : World} {u v : Value} {r : Result Next} (h : valUpon w u r) (k : valUpon w v r) : u = v := by
  cases r with
  | ok n w' =>
    cases n <;> simp only [valUpon] at h k
    · exact h.2.symm.trans k.2
    · exact h.2.trans k.2.symm
  | halt x w' => simp [valUpon] at h
theorem effNext_mono {o : Oper} {a : Act} {K K' : World → Act → Prop} {r : Result Next} (h : effNext P o a K r) (hk : ∀ w a, K w a → K' w a) : effNext P o a K' r := by
  cases r with
  | ok n w' =>
    cases n <;> simp only [effNext] at h ⊢
    · exact hk _ _ h
    · exact hk _ _ h
    · exact h.mono fun e w'' he => by cases e <;> first | exact hk _ _ he | exact he
  | halt x w' => simp [effNext] at h
theorem effNext_some {o : Oper} {a : Act} {K : World → Act → Prop} {r : Result Next} (h : effNext P o a K r) : ∃ w' v, K w' (a.put o.dst v) := by
  cases r with
  | ok n w' =>
    cases n <;> simp only [effNext] at h
    · exact ⟨_, _, h⟩
    · exact ⟨_, _, h⟩
    · obtain ⟨e, w'', fr, hr, _⟩ := h []
      cases e <;> simp only at hr
      exact ⟨_, _, hr⟩
  | halt x w' => simp [effNext] at h
theorem effNext_put {o : Oper} {a : Act} {dst : Option Tmp} {u : Value} {K : World → Act → Prop} {r : Result Next} (hd : ∀ d, o.dst = some d → dst ≠ some d)
    (h : effNext P o (a.put dst u) K r) : effNext P o a (fun w' a' => K w' (a'.put dst u)) r := by
  cases r with
  | ok n w' =>
    cases n <;> simp only [effNext] at h ⊢
    · rw [Act.put_comm a _ u hd]; exact h
    · rw [Act.put_comm a _ u hd]; exact h
    · exact h.mono fun e w'' he => by
        cases e <;> simp only at he ⊢
        rw [Act.put_comm a _ u hd]; exact he
  | halt x w' => simp [effNext] at h

theorem op2_mono {k : Nat} {o : Oper} {K K' : World → Act → Prop} {w : World} {a : Act} (h : ∀ w a, K w a → K' w a) (hh : op2 P ops S k o K w a) : op2 P ops S k o K' w a := by
  unfold op2 at *
  split
  · rename_i hw
    rw [if_pos hw] at hh
    split
    · rename_i hk; rw [if_pos hk] at hh; obtain ⟨v, h1, h2⟩ := hh; exact ⟨v, h1, h _ _ h2⟩
    · rename_i hk; rw [if_neg hk] at hh; exact fun n => effNext_mono (hh n) fun w a ⟨h1, h2⟩ => ⟨h1, h _ _ h2⟩
  · rename_i hw; rw [if_neg hw] at hh; exact h _ _ hh
/-- The same, where the worlds behind are of S. -/
theorem op2_monoS {k : Nat} {o : Oper} {K K' : World → Act → Prop} {w : World} {a : Act} (hS : ∀ n, S (w.drewN n)) (h : ∀ w a, (∀ n, S (w.drewN n)) → K w a → K' w a) (hh : op2 P ops S k o K w a) : op2 P ops S k o K' w a := by
  unfold op2 at *
  split
  · rename_i hw
    rw [if_pos hw] at hh
    split
    · rename_i hk; rw [if_pos hk] at hh; obtain ⟨v, h1, h2⟩ := hh; exact ⟨v, h1, h _ _ hS h2⟩
    · rename_i hk; rw [if_neg hk] at hh; exact fun n => effNext_mono (hh n) fun w a ⟨h1, h2⟩ => ⟨h1, h _ _ h1.1 h2⟩
  · rename_i hw; rw [if_neg hw] at hh; exact h _ _ hS hh

theorem qv_same {k : Nat} {o : Oper} {w : World} {a a' : Act} {v : Value} (he : execOp a'.eval o = execOp a.eval o) (h : qv P S k o w a v) : qv P S k o w a' v := by
  unfold qv Oper.quietAt at *
  rw [he]
  exact h
/-- An operation that is passed by one that writes. -/
theorem qv_move {k : Nat} {o : Oper} {w w' : World} {a : Act} {v : Value} (hk : k = 0 ∨ (k = 3 ∧ Ex w w')) (h : qv P S k o w a v) : qv P S k o w' a v := by
  rcases hk with rfl | ⟨rfl, hx⟩
  · exact h
  · exact fun w'' h'' => h w'' (hx.trans h'')

theorem op2_swap {ki kj : Nat} {oi oj : Oper} (hk : cmpB ki kj = true) (hap : oi.apart ops oj = true)
    (hsi : ∀ cs b, oi.op ≠ .select cs b) (hsj : ∀ cs b, oj.op ≠ .select cs b) {K : World → Act → Prop} {w : World} {a : Act} (_ : ∀ n, S (w.drewN n))
    (h : op2 P ops S ki oi (op2 P ops S kj oj K) w a) : op2 P ops S kj oj (op2 P ops S ki oi K) w a := by
  have hk := cmpB_spec hk
  obtain ⟨h1, h2, h3⟩ := Oper.apart_spec hap
  have h2' : ∀ d, oj.dst = some d → oi.dst ≠ some d := fun d hd he => h2 d he hd
  have eI : ∀ (a : Act) u, execOp (a.put oj.dst u).eval oi = execOp a.eval oi := fun a u => execOp_put oi hsi a oj.dst u h3
  have eJ : ∀ (a : Act) u, execOp (a.put oi.dst u).eval oj = execOp a.eval oj := fun a u => execOp_put oj hsj a oi.dst u h1
  have wI : ∀ (a : Act) u, Region.wanted oi (yielded ops (a.put oj.dst u).tmps) = Region.wanted oi (yielded ops a.tmps) := fun a u => wanted_put oi a oj.dst u h3
  have wJ : ∀ (a : Act) u, Region.wanted oj (yielded ops (a.put oi.dst u).tmps) = Region.wanted oj (yielded ops a.tmps) := fun a u => wanted_put oj a oi.dst u h1
  have com : ∀ (a : Act) v u, (a.put oi.dst v).put oj.dst u = (a.put oj.dst u).put oi.dst v := fun a v u => Act.put_comm a v u h2
  by_cases hwi : Region.wanted oi (yielded ops a.tmps) = true
  · by_cases hwj : Region.wanted oj (yielded ops a.tmps) = true
    · by_cases hqi : ki = 0 ∨ ki = 1 ∨ ki = 3
      · -- oi is quiet
        simp only [op2, hwi, if_true, hqi] at h
        obtain ⟨vi, hvi, hj⟩ := h
        simp only [wJ, hwj, if_true] at hj
        by_cases hqj : kj = 0 ∨ kj = 1 ∨ kj = 3
        · simp only [hqj, if_true] at hj
          obtain ⟨vj, hvj, hK⟩ := hj
          simp only [op2, hwj, if_true, hqj, wI, hwi, hqi]
          exact ⟨vj, qv_same (eJ a vi).symm hvj, vi, qv_same (eI a vj) hvi, by rw [← com]; exact hK⟩
        · simp only [hqj, if_false] at hj
          simp only [op2, hwj, if_true, hqj, if_false]
          intro n
          have hj := hj n
          rw [eJ] at hj
          have hj := effNext_put h2' hj
          -- oi, behind oj
          have hkk : ki = 0 ∨ (ki = 3 ∧ kj = 4) := by omega
          refine effNext_mono (K := fun w' a' => (((∀ m, S (w'.drewN m)) ∧ (kj = 4 → Ex w w')) ∧ K w' (a'.put oi.dst vi)) ∧ Region.wanted oi (yielded ops a'.tmps) = true ∧ execOp a'.eval oi = execOp a.eval oi) ?_ ?_
          · revert hj
            generalize (execOp a.eval oj).run P (w.drewN n) = r
            intro hj
            cases r with
            | ok x w' =>
              cases x <;> simp only [effNext] at hj ⊢
              · exact ⟨hj, by rw [wI]; exact hwi, eI _ _⟩
              · exact ⟨hj, by rw [wI]; exact hwi, eI _ _⟩
              · exact hj.mono fun e w'' he => by
                  cases e <;> simp only at he ⊢
                  exact ⟨he, by rw [wI]; exact hwi, eI _ _⟩
            | halt x w' => simp [effNext] at hj
          · intro w' a' ⟨⟨hs, hK⟩, hw', he'⟩
            refine ⟨hs, ?_⟩
            unfold op2
            rw [if_pos hw', if_pos hqi]
            refine ⟨vi, qv_same he' (qv_move ?_ hvi), hK⟩
            rcases hkk with h | ⟨h, h4⟩
            · exact .inl h
            · exact .inr ⟨h, hs.2 h4⟩
      · -- oi writes: oj is quiet in all of S
        have hkj : kj = 0 := by omega
        subst hkj
        simp only [op2, hwi, if_true, hqi, if_false] at h
        have get : ∀ n, effNext P oi a (fun w' a' => ((∀ m, S (w'.drewN m)) ∧ (ki = 4 → Ex w w')) ∧ ∃ vj, qv P S 0 oj w' a vj ∧ K w' (a'.put oj.dst vj)) ((execOp a.eval oi).run P (w.drewN n)) := by
          intro n
          have hn := h n
          revert hn
          generalize (execOp a.eval oi).run P (w.drewN n) = r
          intro hn
          cases r with
          | ok x w' =>
            cases x <;> simp only [effNext] at hn ⊢
            · obtain ⟨hs, hn⟩ := hn
              unfold op2 at hn
              rw [wJ, if_pos hwj, if_pos (.inl rfl)] at hn
              obtain ⟨vj, hv, hK⟩ := hn
              exact ⟨hs, vj, qv_same (eJ a _).symm hv, hK⟩
            · obtain ⟨hs, hn⟩ := hn
              unfold op2 at hn
              rw [wJ, if_pos hwj, if_pos (.inl rfl)] at hn
              obtain ⟨vj, hv, hK⟩ := hn
              exact ⟨hs, vj, qv_same (eJ a _).symm hv, hK⟩
            · refine hn.mono fun e w'' he => ?_
              cases e <;> simp only at he ⊢
              obtain ⟨hs, hn⟩ := he
              unfold op2 at hn
              rw [wJ, if_pos hwj, if_pos (.inl rfl)] at hn
              obtain ⟨vj, hv, hK⟩ := hn
              exact ⟨hs, vj, qv_same (eJ a _).symm hv, hK⟩
          | halt x w' => simp [effNext] at hn
        obtain ⟨w0, v0, _, vj, hv, _⟩ := effNext_some (get 0)
        simp only [op2, hwj, if_true, true_or]
        refine ⟨vj, hv, ?_⟩
        simp only [wI, hwi, if_true, hqi, if_false]
        intro n
        have hn := get n
        rw [eI]
        have fin : effNext P oi a (fun w' a' => ((∀ m, S (w'.drewN m)) ∧ (ki = 4 → Ex w w')) ∧ K w' (a'.put oj.dst vj)) ((execOp a.eval oi).run P (w.drewN n)) :=
          effNext_mono hn fun w' a' ⟨hs, vj', hv', hK⟩ => ⟨hs, by
            have e : vj' = vj := valUpon_unique (hv' _ (hs.1 0)) (hv _ (hs.1 0))
            rw [← e]; exact hK⟩
        revert fin
        generalize (execOp a.eval oi).run P (w.drewN n) = r
        intro fin
        cases r with
        | ok x w' =>
          cases x <;> simp only [effNext] at fin ⊢
          · rw [← com]; exact fin
          · rw [← com]; exact fin
          · exact fin.mono fun e w'' he => by
              cases e <;> simp only at he ⊢
              rw [← com]; exact he
        | halt x w' => simp [effNext] at fin
    · -- oj is not wanted
      have hwj' : Region.wanted oj (yielded ops a.tmps) = false := by simpa using hwj
      have step : ∀ w' u, op2 P ops S kj oj K w' (a.put oi.dst u) → K w' ((a.put oj.dst undef).put oi.dst u) := by
        intro w' u hh
        simp only [op2, wJ, hwj', Bool.false_eq_true, if_false] at hh
        rw [← com]; exact hh
      show op2 P ops S kj oj (op2 P ops S ki oi K) w a
      unfold op2
      rw [if_neg hwj]
      rw [wI, if_pos hwi]
      unfold op2 at h
      rw [if_pos hwi] at h
      split
      · rename_i hq
        rw [if_pos hq] at h
        obtain ⟨v, hv, hh⟩ := h
        exact ⟨v, qv_same (eI a _) hv, step _ _ hh⟩
      · rename_i hq
        rw [if_neg hq] at h
        intro n
        have hn := h n
        rw [eI]
        revert hn
        generalize (execOp a.eval oi).run P (w.drewN n) = r
        intro hn
        cases r with
        | ok x w' =>
          cases x <;> simp only [effNext] at hn ⊢
          · exact ⟨hn.1, step _ _ hn.2⟩
          · exact ⟨hn.1, step _ _ hn.2⟩
          · exact hn.mono fun e w'' he => by
              cases e <;> simp only at he ⊢
              exact ⟨he.1, step _ _ he.2⟩
        | halt x w' => simp [effNext] at hn
  · -- oi is not wanted
    have hwi' : Region.wanted oi (yielded ops a.tmps) = false := by simpa using hwi
    have h' : op2 P ops S kj oj K w (a.put oi.dst undef) := by
      unfold op2 at h
      rw [if_neg hwi] at h
      exact h
    have step : ∀ w' u, K w' ((a.put oj.dst u).put oi.dst undef) → op2 P ops S ki oi K w' (a.put oj.dst u) := by
      intro w' u hh
      unfold op2
      rw [wI, if_neg hwi]
      exact hh
    unfold op2 at h' ⊢
    rw [wJ] at h'
    split
    · rename_i hw
      rw [if_pos hw] at h'
      split
      · rename_i hq
        rw [if_pos hq] at h'
        obtain ⟨v, hv, hh⟩ := h'
        exact ⟨v, qv_same (eJ a _).symm hv, step _ _ (by rw [← com]; exact hh)⟩
      · rename_i hq
        rw [if_neg hq] at h'
        intro n
        have hn := h' n
        rw [eJ] at hn
        have hn := effNext_put h2' hn
        revert hn
        generalize (execOp a.eval oj).run P (w.drewN n) = r
        intro hn
        cases r with
        | ok x w' =>
          cases x <;> simp only [effNext] at hn ⊢
          · exact ⟨hn.1, step _ _ hn.2⟩
          · exact ⟨hn.1, step _ _ hn.2⟩
          · exact hn.mono fun e w'' he => by
              cases e <;> simp only at he ⊢
              exact ⟨he.1, step _ _ he.2⟩
        | halt x w' => simp [effNext] at hn
    · rename_i hw
      rw [if_neg hw] at h'
      exact step _ _ (by rw [← com]; exact h')

/-! ### Every order -/
def q2 (P : Program) (ops : Array Oper) (S : World → Prop) (kf : Nat → Oper → Nat) (i : Nat) (K : World → Act → Prop) (w : World) (a : Act) : Prop :=
  match ops[i]? with
  | none => K w a
  | some o => op2 P ops S (kf i o) o K w a
def any2 (P : Program) (md : Region.Mode) (ops : Array Oper) (S : World → Prop) (kf : Nat → Oper → Nat) (Q : World → Act → Prop) : Nat → Array Bool → World → Act → Prop
  | 0, listed, w, a => Region.ready md ops listed = [] ∧ Q w a
  | fuel + 1, listed, w, a =>
    (Region.ready md ops listed = [] → Q w a) ∧
    ∀ i ∈ Region.ready md ops listed, q2 P ops S kf i (any2 P md ops S kf Q fuel (listed.setIfInBounds i true)) w a

theorem wp_of_q {o : Oper} {a : Act} {v : Value} {w W : World} {K : Act → World → Prop} {Q' : Exit → Act → World → Prop} (h : ∀ w', (∃ m, w' = W.drewN m) → K (a.put o.dst v) w') (hw : ∃ m, w = W.drewN m)
    (hq : o.quietAt P a (fun w' => ∃ m, w' = W.drewN m) w v) : o.wp P a w K Q' := by
  unfold Oper.quietAt at hq
  unfold Oper.wp
  generalize (execOp a.eval o).run P w = r at *
  cases r with
  | ok n w' =>
    cases n <;> simp only [Oper.quietUpon] at hq <;> simp only [Oper.upon]
    case value u =>
      obtain ⟨e1, e2⟩ := hq
      rw [e1, e2]
      exact h _ hw
    case skip =>
      obtain ⟨e1, e2⟩ := hq
      rw [e1, ← e2]
      exact h _ hw
    case enter f args =>
      obtain ⟨e1, hc⟩ := hq
      rw [e1]
      exact hc.mono fun e w'' ⟨he, hn⟩ => by subst he; exact h _ hn
  | halt x w' => simp only [Oper.quietUpon] at hq

theorem wpOp_of_2 {kf : Nat → Oper → Nat} {i : Nat} {K : World → Act → Prop} {K' : Act → World → Prop} {Q' : Exit → Act → World → Prop} {w : World} {a : Act} (hS : ∀ n, S (w.drewN n))
    (h : ∀ w a, (∀ n, S (w.drewN n)) → K w a → ∀ n, K' a (w.drewN n)) (hh : q2 P ops S kf i K w a) (n : Nat) : wpOp P ops Q' i K' a (w.drewN n) := by
  unfold q2 at hh
  unfold wpOp
  split
  · rename_i ho; simp only [ho] at hh; exact h _ _ hS hh n
  · rename_i o ho
    simp only [ho] at hh
    unfold op2 at hh
    split
    · rename_i hw
      rw [if_pos hw] at hh
      refine .inl ?_
      split at hh
      · rename_i hk
        obtain ⟨v, hv, hK⟩ := hh
        have hq : o.quietAt P a (fun w' => ∃ m, w' = w.drewN m) (w.drewN n) v := by
          rcases hk with e | e | e
          · rw [e] at hv
            have hv := hv _ (hS n)
            unfold Oper.quietAt
            generalize (execOp a.eval o).run P (w.drewN n) = r at *
            cases r with
            | ok x w' => cases x <;> simp only [valUpon] at hv <;> exact hv
            | halt x w' => simp [valUpon] at hv
          · rw [e] at hv; exact hv n
          · rw [e] at hv
            have hv := hv (w.drewN n) ⟨Nat.le_refl _, fun _ _ => rfl⟩
            unfold Oper.quietAt at *
            generalize (execOp a.eval o).run P (w.drewN n) = r at *
            cases r with
            | ok x w' =>
              cases x <;> simp only [Oper.quietUpon] at hv ⊢
              · exact hv
              · exact hv
              · exact ⟨hv.1, hv.2.mono fun e w'' ⟨he, m, hm⟩ => ⟨he, n + m, by rw [hm, World.drewN_drewN]⟩⟩
            | halt x w' => simp [Oper.quietUpon] at hv
        exact wp_of_q (W := w) (fun w' ⟨m, hm⟩ => by rw [hm]; exact h _ _ hS hK m) ⟨n, rfl⟩ hq
      · have hn := hh n
        unfold Oper.wp
        generalize (execOp a.eval o).run P (w.drewN n) = r at *
        cases r with
        | ok x w' =>
          cases x <;> simp only [effNext] at hn <;> simp only [Oper.upon]
          · exact h _ _ hn.1.1 hn.2 0
          · exact h _ _ hn.1.1 hn.2 0
          · refine hn.mono fun e w'' he => ?_
            cases e <;> simp only at he
            exact h _ _ he.1.1 he.2 0
        | halt x w' => simp [effNext] at hn
    · rename_i hw
      rw [if_neg hw] at hh
      exact h _ _ hS hh n

theorem wpAny_of_2 {kf : Nat → Oper → Nat} {Q : World → Act → Prop} {Q' : Exit → Act → World → Prop} (hQ : ∀ w a, Q w a → ∀ n, Q' .normal a (w.drewN n)) : ∀ (fuel : Nat) (listed : Array Bool) (w : World) (a : Act), (∀ n, S (w.drewN n)) →
    any2 P md ops S kf Q fuel listed w a → ∀ n, wpAny P md ops Q' fuel listed a (w.drewN n)
  | 0, _, _, _, _, h, n => ⟨h.1, hQ _ _ h.2 n⟩
  | fuel + 1, _, _, _, hS, h, n => ⟨fun h0 => hQ _ _ (h.1 h0) n, fun i hi => wpOp_of_2 hS (fun w' a' hS' hk n => wpAny_of_2 hQ fuel _ w' a' hS' hk n) (h.2 i hi) n⟩

/-- An operation that may come up now may be taken first. -/
theorem any2_first {kf : Nat → Oper → Nat} {Q : World → Act → Prop} {i : Nat} {oi : Oper} (hi : ops[i]? = some oi) (hsel : ∀ (j : Nat) (o : Oper) cs b, ops[j]? = some o → o.op ≠ .select cs b) :
    ∀ (fuel : Nat) (listed : Array Bool) (w : World) (a : Act), (∀ n, S (w.drewN n)) → DC md ops listed →
      (∀ j oj, ops[j]? = some oj → j ≠ i → listed.getD j true = false → (∀ e ∈ oj.after, Region.binds md e = true → e.on ≠ i) → oi.apart ops oj = true) →
      (∀ j oj, ops[j]? = some oj → j ≠ i → listed.getD j true = false → j ∉ descs md ops i → cmpB (kf i oi) (kf j oj) = true) →
      i ∈ Region.ready md ops listed → op2 P ops S (kf i oi) oi (any2 P md ops S kf Q fuel (listed.setIfInBounds i true)) w a → any2 P md ops S kf Q (fuel + 1) listed w a := by
  intro fuel
  induction fuel with
  | zero =>
    intro listed w a _ _ hfree _ hr H
    refine ⟨fun h => (by rw [h] at hr; cases hr), fun j hj => ?_⟩
    by_cases hji : j = i
    · subst hji; unfold q2; simp only [hi]; exact H
    · exfalso
      have hj' := ready_mono hj hji
      have hnil : Region.ready md ops (listed.setIfInBounds i true) = [] := by
        unfold op2 at H
        split at H
        · split at H
          · obtain ⟨v, _, h2⟩ := H; exact h2.1
          · obtain ⟨w', v, _, h2⟩ := effNext_some (H 0)
            exact h2.1
        · exact H.1
      rw [hnil] at hj'
      cases hj'
  | succ fuel ih =>
    intro listed w a hS hd hfree hcomp hr H
    refine ⟨fun h => (by rw [h] at hr; cases hr), fun j hj => ?_⟩
    by_cases hji : j = i
    · subst hji; unfold q2; simp only [hi]; exact H
    · obtain ⟨hjun, oj, hoj, hall⟩ := mem_ready.1 hj
      have hnot : ∀ e ∈ oj.after, Region.binds md e = true → e.on ≠ i := fun e he hb heq => by
        have h1 := hall e he hb
        have h0 := (mem_ready.1 hr).1
        rw [heq] at h1
        rcases Nat.lt_or_ge i listed.size with h' | h'
        · simp [h'] at h0 h1; rw [h0] at h1; cases h1
        · simp [Array.getElem?_eq_none h'] at h1
      have hiun := (mem_ready.1 hr).1
      have H1 : op2 P ops S (kf i oi) oi (op2 P ops S (kf j oj) oj (any2 P md ops S kf Q fuel ((listed.setIfInBounds i true).setIfInBounds j true))) w a := by
        refine op2_mono (fun w' a' h' => ?_) H
        have h1 := h'.2 j (ready_mono hj hji)
        unfold q2 at h1
        simp only [hoj] at h1
        exact h1
      have h2 := op2_swap (hcomp j oj hoj hji hjun (not_desc hd hiun hj hji)) (hfree j oj hoj hji hjun hnot) (fun cs b => hsel i oi cs b hi) (fun cs b => hsel j oj cs b hoj) hS H1
      unfold q2
      simp only [hoj]
      refine op2_monoS hS (fun w' a' hS' h3 => ?_) h2
      refine ih (listed.setIfInBounds j true) w' a' hS' (dc_set hd hj) (fun k ok hk hki hun hno => ?_) (fun k ok hk hki hun hno => ?_) (ready_mono hr (Ne.symm hji)) ?_
      · refine hfree k ok hk hki ?_ hno
        by_cases hjk : j = k
        · subst hjk; exact hjun
        · rw [getD_set_ne true hjk] at hun; exact hun
      · refine hcomp k ok hk hki ?_ hno
        by_cases hjk : j = k
        · subst hjk; exact hjun
        · rw [getD_set_ne true hjk] at hun; exact hun
      · rw [Array.setIfInBounds_comm _ _ hji]
        exact h3

/-- The test on the edges. -/
def regB (md : Region.Mode) (ops : Array Oper) (ks : List Nat) : Bool := stagesB md ops ks

theorem any2_lex {kf : Nat → Oper → Nat} {Q : World → Act → Prop} (hs : Region.noSelect ops = true)
    (hcomp : ∀ i j oi oj, i < j → ops[i]? = some oi → ops[j]? = some oj → cmpB (kf i oi) (kf j oj) = true ∨ j ∈ descs md ops i) (W : Nat → List Oper → World → Act → Prop)
    (hW0 : ∀ i w a, W i [] w a → Q w a) (hW : ∀ i o rest w a, W i (o :: rest) w a → op2 P ops S (kf i o) o (W (i + 1) rest) w a) : ∀ (l : List Oper) (k : Nat) (listed : Array Bool) (w : World) (a : Act), (∀ n, S (w.drewN n)) → DC md ops listed → (∀ j, j < k → listed.getD j true = true) → listed.size = ops.size → (∀ j, l[j]? = ops[k + j]?) →
    Region.lexFrom md ops l.length k listed = true → W k l w a → any2 P md ops S kf Q l.length listed w a
  | [], k, _, _, _, _, _, _, _, _, hB, h => ⟨by simpa [Region.lexFrom] using hB, hW0 _ _ _ h⟩
  | o :: l, k, listed, w, a, hS, hd, hlow, hsz, hl, hB, h => by
    have h0 : ops[k]? = some o := by simpa using (hl 0).symm
    simp only [List.length_cons, Region.lexFrom, Bool.and_eq_true] at hB
    obtain ⟨⟨hr, hf⟩, hB'⟩ := hB
    have hr' : k ∈ Region.ready md ops listed := by simpa using hr
    have hgt : ∀ j, j ≠ k → listed.getD j true = false → k < j := by
      intro j hji hun
      rcases Nat.lt_trichotomy j k with h1 | h1 | h1
      · rw [hlow j h1] at hun; cases hun
      · exact absurd h1 hji
      · exact h1
    refine any2_first h0 (Region.noSelect_spec hs) l.length listed w a hS hd (Region.free_spec h0 hf) (fun j oj hoj hji hun hno => ?_) hr'
      (op2_monoS hS (fun w' a' hS' h' => any2_lex hs hcomp W hW0 hW l (k + 1) _ _ _ hS' (dc_set hd hr') (fun j hj => ?_) (by simp [hsz]) (fun j => by have := hl (j + 1); simpa [Nat.add_assoc, Nat.add_comm 1 j] using this) hB' h') (hW _ _ _ _ _ h))
    · rcases hcomp k j o oj (hgt j hji hun) h0 hoj with h1 | h1
      · exact h1
      · exact absurd h1 hno
    · by_cases hjk : k = j
      · subst hjk
        have hlt : k < listed.size := by rw [hsz]; exact (Array.getElem?_eq_some_iff.1 h0).1
        simp [hlt]
      · rw [getD_set_ne true hjk]; exact hlow j (by omega)

/-- Kinds, place by place. -/
def kinds (ov : List (Nat × Nat)) (rd : List FuncId) : Nat → List Oper → List Nat
  | _, [] => []
  | i, o :: l => kd ov rd i o :: kinds ov rd (i + 1) l
theorem kinds_getD (ov : List (Nat × Nat)) (rd : List FuncId) : ∀ (l : List Oper) (i j : Nat) (o : Oper), l[j]? = some o → (kinds ov rd i l).getD j 0 = kd ov rd (i + j) o
  | [], _, _, _, h => by simp at h
  | o' :: l, i, 0, o, h => by simp at h; subst h; rfl
  | o' :: l, i, j + 1, o, h => by
    have := kinds_getD ov rd l (i + 1) j o (by simpa using h)
    simp only [kinds, List.getD_cons_succ]
    rw [this, show i + 1 + j = i + (j + 1) by omega]

/-- A region that draws its order: ONE WALK IN THE ORDER OF THE TEXT, from world to world. -/
theorem wp_regionS {id : Nat} {Q' : Exit → Act → World → Prop} {a : Act} {w : World} {l : List Oper} (ov : List (Nat × Nat)) (rd : List FuncId) (S : World → Prop) (hm : P.follows .mixedOrders = true) (hB : stagesB .any l.toArray (kinds ov rd 0 l) = true)
    (hS : ∀ n, S (w.drewN n)) (h : wpReg P l.toArray S ov rd (fun w' a' => ∀ n, Q' .normal a' (w'.drewN n)) 0 l w a) : (Code.region id l.toArray true).wp P Q' a w := by
  obtain ⟨h1, h2, h3⟩ := stagesB_spec hB
  refine wp_region_any hm ?_
  have h4 : any2 P .any l.toArray S (kd ov rd) (fun w' a' => ∀ n, Q' .normal a' (w'.drewN n)) l.length (Array.replicate l.toArray.size false) w a :=
    any2_lex (Q := fun w' a' => ∀ n, Q' .normal a' (w'.drewN n)) h1 (fun i j oi oj hij hi hj => by
      have e1 := kinds_getD ov rd l 0 i oi (by simpa using hi)
      have e2 := kinds_getD ov rd l 0 j oj (by simpa using hj)
      have := h3 i j hij
      rw [e1, e2, Nat.zero_add, Nat.zero_add] at this
      rcases this with h | h | h
      · exact .inl h
      · exact .inr h
      · have := (Array.getElem?_eq_some_iff.1 hj).1
        omega) (wpReg P l.toArray S ov rd (fun w' a' => ∀ n, Q' .normal a' (w'.drewN n))) (fun i w a h => h) (fun i o rest w a h => h) l 0 (Array.replicate l.toArray.size false) w a hS (fun j o ho hl => by
        have hlt := (Array.getElem?_eq_some_iff.1 ho).1
        rw [Array.getElem?_replicate, if_pos hlt] at hl; cases hl) (fun j hj => by omega) (by simp) (by simp) (by simpa using h2) h
  have h5 := wpAny_of_2 (Q' := Q') (fun w a h => h) _ _ w a hS h4 1
  show wpAny P .any l.toArray Q' l.toArray.size (Array.replicate l.toArray.size false) a (w.drewN 1)
  simpa using h5
theorem wp_region2 {id : Nat} {Q' : Exit → Act → World → Prop} {a : Act} {w : World} {l : List Oper} (ov : List (Nat × Nat)) (rd : List FuncId) (hm : P.follows .mixedOrders = true) (hB : stagesB .any l.toArray (kinds ov rd 0 l) = true)
    (h : wpReg P l.toArray (fun _ => True) ov rd (fun w' a' => ∀ n, Q' .normal a' (w'.drewN n)) 0 l w a) : (Code.region id l.toArray true).wp P Q' a w :=
  wp_regionS ov rd _ hm hB (fun _ => trivial) h

/-! ### One operation at a time -/
def qOf (P : Program) (ops : Array Oper) (S : World → Prop) (o : Oper) (K : World → Act → Prop) (w : World) (a : Act) : Prop :=
  if Region.wanted o (yielded ops a.tmps) then ∃ v, (∀ w', S w' → valUpon w' v ((execOp a.eval o).run P w')) ∧ K w (a.put o.dst v) else K w (a.put o.dst undef)
def rOf (P : Program) (ops : Array Oper) (o : Oper) (K : World → Act → Prop) (w : World) (a : Act) : Prop :=
  if Region.wanted o (yielded ops a.tmps) then ∃ v, (∀ n, o.quietAt P a (fun w' => ∃ m, w' = w.drewN m) (w.drewN n) v) ∧ K w (a.put o.dst v) else K w (a.put o.dst undef)
def eOf (P : Program) (ops : Array Oper) (o : Oper) (K : World → Act → Prop) (w : World) (a : Act) : Prop :=
  if Region.wanted o (yielded ops a.tmps) then effNext P o a K ((execOp a.eval o).run P w) else K w (a.put o.dst undef)
variable {ov : List (Nat × Nat)} {rd : List FuncId} {Q : World → Act → Prop} {i : Nat} {o : Oper} {rest : List Oper} {w : World} {a : Act}
theorem reg_any (hk : kd ov rd i o = 0) (h : ∀ K : World → Act → Prop, (∀ w a, wpReg P ops S ov rd Q (i + 1) rest w a → K w a) → qOf P ops S o K w a) : wpReg P ops S ov rd Q i (o :: rest) w a := by
  have h1 := h _ fun _ _ h => h
  show op2 P ops S (kd ov rd i o) o _ w a
  rw [hk]
  exact h1
/-- .. where nothing is known of every stage. -/
theorem reg_anyT (hk : kd ov rd i o = 0) (h : ∀ K : World → Act → Prop, (∀ w a, wpReg P ops S ov rd Q (i + 1) rest w a → K w a) → qOf P ops (fun _ => True) o K w a) : wpReg P ops S ov rd Q i (o :: rest) w a := by
  refine reg_any hk fun K hK => ?_
  have h1 := h K hK
  unfold qOf at h1 ⊢
  split
  · rename_i hw
    rw [if_pos hw] at h1
    obtain ⟨v, h2, h3⟩ := h1
    exact ⟨v, fun w _ => h2 w trivial, h3⟩
  · rename_i hw
    rw [if_neg hw] at h1
    exact h1
theorem reg_read (hk : kd ov rd i o = 1) (h : ∀ K : World → Act → Prop, (∀ w a, wpReg P ops S ov rd Q (i + 1) rest w a → K w a) → rOf P ops o K w a) : wpReg P ops S ov rd Q i (o :: rest) w a := by
  have h1 := h _ fun _ _ h => h
  show op2 P ops S (kd ov rd i o) o _ w a
  rw [hk]
  exact h1
/-- An operation that writes; the world that it meets is 'w', drawn on. -/
theorem reg_effS (hk : kd ov rd i o = 2) (h : ∀ n, ∀ K : World → Act → Prop, (∀ w' a, (∀ m, S (w'.drewN m)) ∧ wpReg P ops S ov rd Q (i + 1) rest w' a → K w' a) → eOf P ops o K (w.drewN n) a) : wpReg P ops S ov rd Q i (o :: rest) w a := by
  show op2 P ops S (kd ov rd i o) o _ w a
  rw [hk]
  unfold op2
  split
  · rename_i hw
    show ev P S 2 o _ w a
    intro n
    have h1 := h n _ fun _ _ h => h
    unfold eOf at h1
    rw [if_pos hw] at h1
    exact effNext_mono h1 fun w' a' ⟨h2, h3⟩ => ⟨⟨h2, fun e => by cases e⟩, h3⟩
  · rename_i hw
    have h1 := h 0 _ fun _ _ h => h
    unfold eOf at h1
    rw [if_neg hw] at h1
    exact h1.2
theorem reg_eff (hk : kd ov rd i o = 2) (h : ∀ n, ∀ K : World → Act → Prop, (∀ w' a, wpReg P ops (fun _ => True) ov rd Q (i + 1) rest w' a → K w' a) → eOf P ops o K (w.drewN n) a) : wpReg P ops (fun _ => True) ov rd Q i (o :: rest) w a :=
  reg_effS hk fun n K hK => h n K fun w' a' h' => hK w' a' ⟨fun _ => trivial, h'⟩
/-- An operation that makes new memory alone (kind 4). -/
theorem reg_new (hk : kd ov rd i o = 4) (h : ∀ n, ∀ K : World → Act → Prop, (∀ w' a, Ex w w' ∧ wpReg P ops (fun _ => True) ov rd Q (i + 1) rest w' a → K w' a) → eOf P ops o K (w.drewN n) a) : wpReg P ops (fun _ => True) ov rd Q i (o :: rest) w a := by
  show op2 P ops _ (kd ov rd i o) o _ w a
  rw [hk]
  unfold op2
  split
  · rename_i hw
    rw [if_neg (by decide)]
    intro n
    have h1 := h n _ fun _ _ h => h
    unfold eOf at h1
    rw [if_pos hw] at h1
    exact effNext_mono h1 fun w' a' ⟨h2, h3⟩ => ⟨⟨fun _ => trivial, fun _ => h2⟩, h3⟩
  · rename_i hw
    have h1 := h 0 _ fun _ _ h => h
    unfold eOf at h1
    rw [if_neg hw] at h1
    exact h1.2
/-- An operation that only reads, in every world that has the one at hand, and maybe new memory (kind 3). -/
theorem reg_hold_v (hk : kd ov rd i o = 3) (hw : Region.wanted o (yielded ops a.tmps) = true) (v : Value) (h1 : ∀ w', Ex w w' → o.quietAt P a (fun w'' => ∃ m, w'' = w'.drewN m) w' v)
    (h : wpReg P ops S ov rd Q (i + 1) rest w (a.put o.dst v)) : wpReg P ops S ov rd Q i (o :: rest) w a := by
  show op2 P ops S (kd ov rd i o) o _ w a
  rw [hk]
  unfold op2
  rw [if_pos hw, if_pos (by decide)]
  exact ⟨v, h1, h⟩
theorem reg_read_v (hk : kd ov rd i o = 1) (hw : Region.wanted o (yielded ops a.tmps) = true) (v : Value) (h1 : ∀ n, o.quietAt P a (fun w'' => ∃ m, w'' = w.drewN m) (w.drewN n) v)
    (h : wpReg P ops S ov rd Q (i + 1) rest w (a.put o.dst v)) : wpReg P ops S ov rd Q i (o :: rest) w a := by
  show op2 P ops S (kd ov rd i o) o _ w a
  rw [hk]
  unfold op2
  rw [if_pos hw, if_pos (by decide)]
  exact ⟨v, h1, h⟩
theorem q_conv {o : Oper} {a : Act} {w : World} {C : World → Prop} {v : Value} (src dst : TypeId) (x : Operand) (ho : o.op = .convert src dst x) (h : (convert src dst (a.eval x)).run P w = .ok v w) : o.quietAt P a C w v := by
  simp only [Oper.quietAt, execOp, ho, Sem.run_bind, h, Result.andThen]
  exact ⟨rfl, rfl⟩
theorem q_load {o : Oper} {a : Act} {w : World} {C : World → Prop} {v : Value} (t : TypeId) (x : Operand) (p : Addr) (ho : o.op = .load t x) (hx : a.eval x = .pointer (some p)) (ht : ∀ w, (isAgg t).run P w = .ok false w) (hc : w.cell? p = some v) : o.quietAt P a C w v := by
  simp [Oper.quietAt, execOp, ho, hx, Instr.loadAt, Instr.sureAddr, loadVar, load, Sem.run, hc, ht, Result.andThen, Oper.quietUpon]
theorem Ex.cell {w w' : World} (h : Ex w w') {p : Addr} {u : Value} (hp : w.cell? p = some u) : w'.cell? p = some u :=
  (World.cell?_of_block (w := w) (h.2 p.block (World.block_lt_of_cell? w p hp))).trans hp
theorem rd_same {f : FuncId} {args : Array Value} {w : World} {n : Nat} {v : Value} (h : Calls P f args (w.drewN n) fun e w' => e = .returned v ∧ w.drewN n = w') : Calls P f args (w.drewN n) fun e w'' => e = .returned v ∧ ∃ m, w'' = w.drewN m :=
  h.mono fun _ _ ⟨he, hm⟩ => ⟨he, n, hm.symm⟩
theorem reg_nil (h : Q w a) : wpReg P ops S ov rd Q i [] w a := h
end
theorem Mod.ex {w w' : World} {n : Nat} (h : Mod (fun _ => False) (w.drewN n) w') : Ex w w' := ⟨h.size, fun k hk => h.block k hk (fun h => h)⟩
theorem Mod.undrew {S : Nat → Prop} {w w' : World} {n : Nat} (h : Mod S (w.drewN n) w') : Mod S w w' := ⟨h.os, h.tape, h.output, h.size, h.block⟩
attribute [go_sem] qOf rOf eOf valUpon effNext
attribute [irreducible] wpReg
end Go.Proofs.YtdfdkacnejichaaDoor
