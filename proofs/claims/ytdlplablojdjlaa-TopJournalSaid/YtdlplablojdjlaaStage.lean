/- A region that draws its order, walked once in the order of the text, though some of its operations write: for every region that passes a test on its edges (stagesB); no other condition. -/
import Derived.WalkKit
import Derived.Still
import Derived.Deep.Draws
import Derived.Deep.Quiet
import Derived.Deep.QuietTactic
namespace Go.Proofs.Ytdlplablojdjlaa
open Go

section
variable {P : Program} {ops : Array Oper} {md : Region.Mode} {S : World → Prop}

/-- A class of worlds that draws leave, inside S. -/
def Good (S C : World → Prop) : Prop := (∀ w n, C w → C (w.drewN n)) ∧ ∀ w, C w → S w

/-- An operation that may turn the world: it yields v and leaves a world of D. -/
def effUpon (P : Program) (v : Value) (D : World → Prop) : Result Next → Prop
  | .ok (.value u) w' => u = v ∧ D w'
  | .ok .skip w' => v = undef ∧ D w'
  | .ok (.enter f args) w' => Calls P f args w' (fun e w'' => e = .returned v ∧ D w'')
  | _ => False

/-- Of a world of X the operation yields v, and leaves it but for draws. -/
def sq (P : Program) (o : Oper) (a : Act) (X : World → Prop) (v : Value) : Prop := ∀ w, X w → o.quietAt P a (fun w' => ∃ n, w' = w.drewN n) w v

def opAny (P : Program) (ops : Array Oper) (S : World → Prop) (o : Oper) (K : (World → Prop) → Act → Prop) (C : World → Prop) (a : Act) : Prop :=
  if Region.wanted o (yielded ops a.tmps) then ∃ v, sq P o a S v ∧ K C (a.put o.dst v) else K C (a.put o.dst undef)
def opPin (P : Program) (ops : Array Oper) (o : Oper) (K : (World → Prop) → Act → Prop) (C : World → Prop) (a : Act) : Prop :=
  if Region.wanted o (yielded ops a.tmps) then ∃ v, sq P o a C v ∧ K C (a.put o.dst v) else K C (a.put o.dst undef)
def opEff (P : Program) (ops : Array Oper) (S : World → Prop) (o : Oper) (K : (World → Prop) → Act → Prop) (C : World → Prop) (a : Act) : Prop :=
  if Region.wanted o (yielded ops a.tmps) then ∃ v D, (∀ w, C w → effUpon P v D ((execOp a.eval o).run P w)) ∧ Good S D ∧ K D (a.put o.dst v) else K C (a.put o.dst undef)

/-- The worlds that have all that one of C has, and maybe new memory. -/
def Cl (C : World → Prop) : World → Prop := fun w' => ∃ w, C w ∧ w.heap.size ≤ w'.heap.size ∧ ∀ k, k < w.heap.size → w'.heap[k]? = w.heap[k]?
theorem Cl.refl {C : World → Prop} {w : World} (h : C w) : Cl C w := ⟨w, h, Nat.le_refl _, fun _ _ => rfl⟩
theorem Cl.trans {C D : World → Prop} (h : ∀ w, D w → Cl C w) {w : World} (k : Cl D w) : Cl C w := by
  obtain ⟨w1, h1, h2, h3⟩ := k
  obtain ⟨w0, g1, g2, g3⟩ := h w1 h1
  exact ⟨w0, g1, Nat.le_trans g2 h2, fun j hj => (h3 j (Nat.lt_of_lt_of_le hj g2)).trans (g3 j hj)⟩
def opHold (P : Program) (ops : Array Oper) (o : Oper) (K : (World → Prop) → Act → Prop) (C : World → Prop) (a : Act) : Prop :=
  if Region.wanted o (yielded ops a.tmps) then ∃ v, sq P o a (Cl C) v ∧ K C (a.put o.dst v) else K C (a.put o.dst undef)
def opNew (P : Program) (ops : Array Oper) (S : World → Prop) (o : Oper) (K : (World → Prop) → Act → Prop) (C : World → Prop) (a : Act) : Prop :=
  if Region.wanted o (yielded ops a.tmps) then ∃ v D, (∀ w, C w → effUpon P v D ((execOp a.eval o).run P w)) ∧ (Good S D ∧ ∀ w, D w → Cl C w) ∧ K D (a.put o.dst v) else K C (a.put o.dst undef)
/-- May an operation of kind i be passed by one of kind j? -/
def cmpB (a b : Nat) : Bool := a == 0 || b == 0 || ((a == 1 || a == 3) && (b == 1 || b == 3)) || (a == 3 && b == 4)
theorem cmpB_spec {a b : Nat} (h : cmpB a b = true) : a = 0 ∨ b = 0 ∨ ((a = 1 ∨ a = 3) ∧ (b = 1 ∨ b = 3)) ∨ (a = 3 ∧ b = 4) := by
  simp [cmpB] at h
  rcases h with ((h | h) | h) | h
  · exact .inl h
  · exact .inr (.inl h)
  · exact .inr (.inr (.inl h))
  · exact .inr (.inr (.inr h))

/-- The kinds: 3: quiet in the worlds of its own stage and in those that have new memory besides; 4: it makes new memory, and turns none that is there; 0: quiet in every world of S; 1: quiet in the worlds of its own stage; 2: it writes. -/
def opW (P : Program) (ops : Array Oper) (S : World → Prop) (k : Nat) (o : Oper) (K : (World → Prop) → Act → Prop) (C : World → Prop) (a : Act) : Prop :=
  match k with
  | 0 => opAny P ops S o K C a
  | 1 => opPin P ops o K C a
  | 3 => opHold P ops o K C a
  | 4 => opNew P ops S o K C a
  | _ => opEff P ops S o K C a

def wpStage (P : Program) (ops : Array Oper) (S : World → Prop) (Q : (World → Prop) → Act → Prop) : List Nat → List Oper → (World → Prop) → Act → Prop
  | _, [], C, a => Q C a
  | ks, o :: rest, C, a => opW P ops S (ks.headD 0) o (wpStage P ops S Q ks.tail rest) C a

theorem stage_any {Q : (World → Prop) → Act → Prop} {ks : List Nat} {o : Oper} {rest : List Oper} {C : World → Prop} {a : Act}
    (h : ∀ K : (World → Prop) → Act → Prop, (∀ C a, wpStage P ops S Q ks rest C a → K C a) → opAny P ops S o K C a) : wpStage P ops S Q (0 :: ks) (o :: rest) C a := h _ fun _ _ h => h
theorem stage_pin {Q : (World → Prop) → Act → Prop} {ks : List Nat} {o : Oper} {rest : List Oper} {C : World → Prop} {a : Act}
    (h : ∀ K : (World → Prop) → Act → Prop, (∀ C a, wpStage P ops S Q ks rest C a → K C a) → opPin P ops o K C a) : wpStage P ops S Q (1 :: ks) (o :: rest) C a := h _ fun _ _ h => h
theorem stage_eff {Q : (World → Prop) → Act → Prop} {ks : List Nat} {o : Oper} {rest : List Oper} {C : World → Prop} {a : Act}
    (h : ∀ K : (World → Prop) → Act → Prop, (∀ C a, wpStage P ops S Q ks rest C a → K C a) → opEff P ops S o K C a) : wpStage P ops S Q (2 :: ks) (o :: rest) C a := h _ fun _ _ h => h
theorem stage_hold {Q : (World → Prop) → Act → Prop} {ks : List Nat} {o : Oper} {rest : List Oper} {C : World → Prop} {a : Act}
    (h : ∀ K : (World → Prop) → Act → Prop, (∀ C a, wpStage P ops S Q ks rest C a → K C a) → opHold P ops o K C a) : wpStage P ops S Q (3 :: ks) (o :: rest) C a := h _ fun _ _ h => h
theorem stage_new {Q : (World → Prop) → Act → Prop} {ks : List Nat} {o : Oper} {rest : List Oper} {C : World → Prop} {a : Act}
    (h : ∀ K : (World → Prop) → Act → Prop, (∀ C a, wpStage P ops S Q ks rest C a → K C a) → opNew P ops S o K C a) : wpStage P ops S Q (4 :: ks) (o :: rest) C a := h _ fun _ _ h => h
theorem stage_nil {Q : (World → Prop) → Act → Prop} {ks : List Nat} {C : World → Prop} {a : Act} (h : Q C a) : wpStage P ops S Q ks [] C a := by cases ks <;> exact h

/-! ### The test on the edges -/
def descs (md : Region.Mode) (ops : Array Oper) (i : Nat) : List Nat :=
  (List.range ops.size).foldl (fun acc j => if (match ops[j]? with | some o => o.after.any (fun e => Region.binds md e && acc.contains e.on) | none => false) then j :: acc else acc) [i]
def stagesB (md : Region.Mode) (ops : Array Oper) (ks : List Nat) : Bool :=
  Region.lexB md ops && (List.range ops.size).all fun i => ks.getD i 0 == 0 ||
    let d := descs md ops i
    (List.range ops.size).all fun j => j ≤ i || cmpB (ks.getD i 0) (ks.getD j 0) || d.contains j

/-- What has come up has come up behind all that it waits for. -/
def DC (md : Region.Mode) (ops : Array Oper) (listed : Array Bool) : Prop :=
  ∀ (j : Nat) (o : Oper), ops[j]? = some o → listed[j]? = some true → ∀ e ∈ o.after, Region.binds md e = true → listed.getD e.on false = true

theorem getD_true {listed : Array Bool} {j : Nat} (h : listed.getD j true = false) : listed[j]? = some false := by
  rcases Nat.lt_or_ge j listed.size with h' | h'
  · simp [h'] at h ⊢; exact h
  · simp [Array.getElem?_eq_none h'] at h

theorem unl_fold {listed : Array Bool} (hd : DC md ops listed) : ∀ (l acc : List Nat), (∀ j ∈ acc, listed[j]? ≠ some true) →
    ∀ j ∈ l.foldl (fun acc j => if (match ops[j]? with | some o => o.after.any (fun e => Region.binds md e && acc.contains e.on) | none => false) then j :: acc else acc) acc, listed[j]? ≠ some true
  | [], _, h => h
  | k :: l, acc, h => by
    rw [List.foldl_cons]
    refine unl_fold hd l _ ?_
    by_cases hk : (match ops[k]? with | some o => o.after.any (fun e => Region.binds md e && acc.contains e.on) | none => false) = true
    · rw [if_pos hk]
      intro j hj
      rcases List.mem_cons.1 hj with rfl | hj
      · intro hl
        cases ho : ops[j]? with
        | none => simp [ho] at hk
        | some o =>
          simp only [ho] at hk
          obtain ⟨e, he, hb⟩ := Array.any_eq_true'.1 hk
          simp only [Bool.and_eq_true, List.contains_iff_mem] at hb
          have h1 := hd j o ho hl e he hb.1
          refine h e.on hb.2 ?_
          rcases Nat.lt_or_ge e.on listed.size with h' | h'
          · simp [h'] at h1 ⊢; exact h1
          · simp [Array.getElem?_eq_none h'] at h1
      · exact h j hj
    · rw [if_neg hk]
      exact h

theorem dc_set {listed : Array Bool} (hd : DC md ops listed) {j : Nat} (hj : j ∈ Region.ready md ops listed) : DC md ops (listed.setIfInBounds j true) := by
  intro k o hk hl e he hb
  by_cases hjk : j = k
  · subst hjk
    obtain ⟨_, o', ho', hall⟩ := mem_ready.1 hj
    rw [hk] at ho'
    cases ho'
    exact getD_set_true (hall e he hb)
  · rw [Array.getElem?_setIfInBounds_ne hjk] at hl
    exact getD_set_true (hd k o hk hl e he hb)

theorem not_desc {listed : Array Bool} (hd : DC md ops listed) {i j : Nat} (hi : listed.getD i true = false) (hj : j ∈ Region.ready md ops listed) (hne : j ≠ i) : j ∉ descs md ops i := by
  intro hin
  have h1 := getD_true (mem_ready.1 hj).1
  have hlt : j < listed.size := (Array.getElem?_eq_some_iff.1 h1).1
  have hi' : (listed.setIfInBounds j true)[i]? ≠ some true := by
    rw [Array.getElem?_setIfInBounds_ne hne, getD_true hi]; simp
  exact unl_fold (dc_set hd hj) (List.range ops.size) [i] (fun k hk => by rw [List.mem_singleton.1 hk]; exact hi') j hin (by simp [hlt])

/-! ### Every order -/
def qOpW (P : Program) (ops : Array Oper) (S : World → Prop) (ks : List Nat) (i : Nat) (K : (World → Prop) → Act → Prop) (C : World → Prop) (a : Act) : Prop :=
  match ops[i]? with
  | none => K C a
  | some o => opW P ops S (ks.getD i 0) o K C a

def wpAnyW (P : Program) (md : Region.Mode) (ops : Array Oper) (S : World → Prop) (ks : List Nat) (Q : (World → Prop) → Act → Prop) : Nat → Array Bool → (World → Prop) → Act → Prop
  | 0, listed, C, a => Region.ready md ops listed = [] ∧ Q C a
  | fuel + 1, listed, C, a =>
    (Region.ready md ops listed = [] → Q C a) ∧
    ∀ i ∈ Region.ready md ops listed, qOpW P ops S ks i (wpAnyW P md ops S ks Q fuel (listed.setIfInBounds i true)) C a

theorem opW_mono {k : Nat} {o : Oper} {K K' : (World → Prop) → Act → Prop} {C : World → Prop} {a : Act} (hC : Good S C) (h : ∀ C a, Good S C → K C a → K' C a) (hh : opW P ops S k o K C a) : opW P ops S k o K' C a := by
  unfold opW at *
  split at hh
  · unfold opAny at *
    split at hh
    · rename_i hw; rw [if_pos hw]; obtain ⟨v, h1, h2⟩ := hh; exact ⟨v, h1, h _ _ hC h2⟩
    · rename_i hw; rw [if_neg hw]; exact h _ _ hC hh
  · unfold opPin at *
    split at hh
    · rename_i hw; rw [if_pos hw]; obtain ⟨v, h1, h2⟩ := hh; exact ⟨v, h1, h _ _ hC h2⟩
    · rename_i hw; rw [if_neg hw]; exact h _ _ hC hh
  · unfold opHold at *
    split at hh
    · rename_i hw; rw [if_pos hw]; obtain ⟨v, h1, h2⟩ := hh; exact ⟨v, h1, h _ _ hC h2⟩
    · rename_i hw; rw [if_neg hw]; exact h _ _ hC hh
  · unfold opNew at *
    split at hh
    · rename_i hw; rw [if_pos hw]; obtain ⟨v, D, h1, hD, h2⟩ := hh; exact ⟨v, D, h1, hD, h _ _ hD.1 h2⟩
    · rename_i hw; rw [if_neg hw]; exact h _ _ hC hh
  · unfold opEff at *
    split at hh
    · rename_i hw; rw [if_pos hw]; obtain ⟨v, D, h1, hD, h2⟩ := hh; exact ⟨v, D, h1, hD, h _ _ hD h2⟩
    · rename_i hw; rw [if_neg hw]; exact h _ _ hC hh

theorem qOpW_mono {ks : List Nat} {i : Nat} {K K' : (World → Prop) → Act → Prop} {C : World → Prop} {a : Act} (hC : Good S C) (h : ∀ C a, Good S C → K C a → K' C a) (hh : qOpW P ops S ks i K C a) : qOpW P ops S ks i K' C a := by
  unfold qOpW at *
  split
  · exact h _ _ hC (by simpa [*] using hh)
  · rename_i o ho; simp only [ho] at hh; exact opW_mono hC h hh

theorem wp_of_sq {o : Oper} {a : Act} {X C : World → Prop} {v : Value} {K : Act → Prop} {K' : Act → World → Prop} {Q' : Exit → Act → World → Prop} {w : World}
    (hw : X w) (hC : C w) (hd : ∀ w n, C w → C (w.drewN n)) (h : ∀ a w', C w' → K a → K' a w') (h1 : sq P o a X v) (h2 : K (a.put o.dst v)) : o.wp P a w K' Q' := by
  have h3 := h1 w hw
  unfold Oper.quietAt at h3
  unfold Oper.wp
  generalize (execOp a.eval o).run P w = r at *
  cases r with
  | ok n w' =>
    cases n <;> simp only [Oper.quietUpon] at h3 <;> simp only [Oper.upon]
    case value u =>
      obtain ⟨e1, e2⟩ := h3
      rw [e1, e2]
      exact h _ _ hC h2
    case skip =>
      obtain ⟨e1, e2⟩ := h3
      rw [e1, ← e2]
      exact h _ _ hC h2
    case enter f args =>
      obtain ⟨e1, hc⟩ := h3
      rw [e1]
      exact hc.mono fun e w'' ⟨he, n, hn⟩ => by subst he; subst hn; exact h _ _ (hd _ _ hC) h2
  | halt x w' => simp only [Oper.quietUpon] at h3

theorem wp_of_eff {o : Oper} {a : Act} {D : World → Prop} {v : Value} {K : Act → Prop} {K' : Act → World → Prop} {Q' : Exit → Act → World → Prop} {w : World}
    (h : ∀ a w', D w' → K a → K' a w') (h3 : effUpon P v D ((execOp a.eval o).run P w)) (h2 : K (a.put o.dst v)) : o.wp P a w K' Q' := by
  unfold Oper.wp
  generalize (execOp a.eval o).run P w = r at *
  cases r with
  | ok n w' =>
    cases n <;> simp only [effUpon] at h3 <;> simp only [Oper.upon]
    case value u =>
      obtain ⟨e1, e2⟩ := h3
      rw [e1]
      exact h _ _ e2 h2
    case skip =>
      obtain ⟨e1, e2⟩ := h3
      rw [← e1]
      exact h _ _ e2 h2
    case enter f args =>
      exact h3.mono fun e w'' ⟨he, hn⟩ => by subst he; exact h _ _ hn h2
  | halt x w' => simp only [effUpon] at h3

theorem wpOp_of_W {ks : List Nat} {i : Nat} {K : (World → Prop) → Act → Prop} {K' : Act → World → Prop} {Q' : Exit → Act → World → Prop} {C : World → Prop} {a : Act} {w : World}
    (hC : Good S C) (hw : C w) (h : ∀ C a w', Good S C → C w' → K C a → K' a w') (hh : qOpW P ops S ks i K C a) : wpOp P ops Q' i K' a w := by
  unfold qOpW at hh
  unfold wpOp
  split
  · rename_i ho; simp only [ho] at hh; exact h _ _ _ hC hw hh
  · rename_i o ho
    simp only [ho] at hh
    unfold opW at hh
    split at hh
    · unfold opAny at hh
      split at hh
      · rename_i hwt; rw [if_pos hwt]; obtain ⟨v, h1, h2⟩ := hh
        exact .inl (wp_of_sq (X := S) (C := C) (K := K C) (hC.2 _ hw) hw hC.1 (fun a w' hw' hk => h _ _ _ hC hw' hk) h1 h2)
      · rename_i hwt; rw [if_neg hwt]; exact h _ _ _ hC hw hh
    · unfold opPin at hh
      split at hh
      · rename_i hwt; rw [if_pos hwt]; obtain ⟨v, h1, h2⟩ := hh
        exact .inl (wp_of_sq (X := C) (C := C) (K := K C) hw hw hC.1 (fun a w' hw' hk => h _ _ _ hC hw' hk) h1 h2)
      · rename_i hwt; rw [if_neg hwt]; exact h _ _ _ hC hw hh
    · unfold opHold at hh
      split at hh
      · rename_i hwt; rw [if_pos hwt]; obtain ⟨v, h1, h2⟩ := hh
        exact .inl (wp_of_sq (X := Cl C) (C := C) (K := K C) (Cl.refl hw) hw hC.1 (fun a w' hw' hk => h _ _ _ hC hw' hk) h1 h2)
      · rename_i hwt; rw [if_neg hwt]; exact h _ _ _ hC hw hh
    · unfold opNew at hh
      split at hh
      · rename_i hwt; rw [if_pos hwt]; obtain ⟨v, D, h1, hD, h2⟩ := hh
        exact .inl (wp_of_eff (K := K D) (fun a w' hw' hk => h _ _ _ hD.1 hw' hk) (h1 w hw) h2)
      · rename_i hwt; rw [if_neg hwt]; exact h _ _ _ hC hw hh
    · unfold opEff at hh
      split at hh
      · rename_i hwt; rw [if_pos hwt]; obtain ⟨v, D, h1, hD, h2⟩ := hh
        exact .inl (wp_of_eff (K := K D) (fun a w' hw' hk => h _ _ _ hD hw' hk) (h1 w hw) h2)
      · rename_i hwt; rw [if_neg hwt]; exact h _ _ _ hC hw hh

theorem wpAny_of_W {ks : List Nat} {Q : (World → Prop) → Act → Prop} {Q' : Exit → Act → World → Prop} (hQ : ∀ C a w, C w → Q C a → Q' .normal a w) : ∀ (fuel : Nat) (listed : Array Bool) (C : World → Prop) (a : Act) (w : World), Good S C → C w →
    wpAnyW P md ops S ks Q fuel listed C a → wpAny P md ops Q' fuel listed a w
  | 0, _, _, _, _, _, hw, h => ⟨h.1, hQ _ _ _ hw h.2⟩
  | fuel + 1, _, _, _, _, hC, hw, h => ⟨fun h0 => hQ _ _ _ hw (h.1 h0), fun i hi => wpOp_of_W hC hw (fun C' a' w' hC' hw' => wpAny_of_W hQ fuel _ C' a' w' hC' hw') (h.2 i hi)⟩

/-- What operation 'o' of kind k does from class C: it yields v and leaves class D. -/
def Res (P : Program) (ops : Array Oper) (S : World → Prop) (k : Nat) (o : Oper) (v : Value) (C D : World → Prop) (a : Act) : Prop :=
  (Region.wanted o (yielded ops a.tmps) = false ∧ v = undef ∧ D = C) ∨
  (Region.wanted o (yielded ops a.tmps) = true ∧
    ((k = 0 ∧ sq P o a S v ∧ D = C) ∨ (k = 1 ∧ sq P o a C v ∧ D = C) ∨ (k = 3 ∧ sq P o a (Cl C) v ∧ D = C) ∨ (k ≠ 0 ∧ k ≠ 1 ∧ k ≠ 3 ∧ (∀ w, C w → effUpon P v D ((execOp a.eval o).run P w)) ∧ Good S D ∧ (k = 4 → ∀ w, D w → Cl C w))))

theorem Res.opW {k : Nat} {o : Oper} {v : Value} {C D : World → Prop} {a : Act} (hr : Res P ops S k o v C D a) {K : (World → Prop) → Act → Prop} (h : K D (a.put o.dst v)) : opW P ops S k o K C a := by
  unfold Go.Proofs.Ytdlplablojdjlaa.opW
  rcases hr with ⟨hw, rfl, rfl⟩ | ⟨hw, h1⟩
  · split <;> simp only [opAny, opPin, opEff, opHold, opNew, hw, Bool.false_eq_true, if_false] <;> exact h
  · rcases h1 with ⟨rfl, h1, rfl⟩ | ⟨rfl, h1, rfl⟩ | ⟨rfl, h1, rfl⟩ | ⟨k0, k1, k3, h1, hD, h4⟩
    · simp only [opAny, hw, if_true]; exact ⟨v, h1, h⟩
    · simp only [opPin, hw, if_true]; exact ⟨v, h1, h⟩
    · simp only [opHold, hw, if_true]; exact ⟨v, h1, h⟩
    · split
      · exact absurd rfl k0
      · exact absurd rfl k1
      · exact absurd rfl k3
      · simp only [opNew, hw, if_true]; exact ⟨v, D, h1, ⟨hD, h4 rfl⟩, h⟩
      · simp only [opEff, hw, if_true]; exact ⟨v, D, h1, hD, h⟩

theorem res_of_opW {k : Nat} {o : Oper} {C : World → Prop} {a : Act} {K : (World → Prop) → Act → Prop} (h : opW P ops S k o K C a) : ∃ v D, Res P ops S k o v C D a ∧ K D (a.put o.dst v) := by
  unfold opW at h
  split at h
  · unfold opAny at h
    split at h
    · rename_i hw; obtain ⟨v, h1, h2⟩ := h; exact ⟨v, C, .inr ⟨hw, .inl ⟨rfl, h1, rfl⟩⟩, h2⟩
    · rename_i hw; exact ⟨undef, C, .inl ⟨by simpa using hw, rfl, rfl⟩, h⟩
  · unfold opPin at h
    split at h
    · rename_i hw; obtain ⟨v, h1, h2⟩ := h; exact ⟨v, C, .inr ⟨hw, .inr (.inl ⟨rfl, h1, rfl⟩)⟩, h2⟩
    · rename_i hw; exact ⟨undef, C, .inl ⟨by simpa using hw, rfl, rfl⟩, h⟩
  · unfold opHold at h
    split at h
    · rename_i hw; obtain ⟨v, h1, h2⟩ := h; exact ⟨v, C, .inr ⟨hw, .inr (.inr (.inl ⟨rfl, h1, rfl⟩))⟩, h2⟩
    · rename_i hw; exact ⟨undef, C, .inl ⟨by simpa using hw, rfl, rfl⟩, h⟩
  · unfold opNew at h
    split at h
    · rename_i hw; obtain ⟨v, D, h1, hD, h2⟩ := h; exact ⟨v, D, .inr ⟨hw, .inr (.inr (.inr ⟨by decide, by decide, by decide, h1, hD.1, fun _ => hD.2⟩))⟩, h2⟩
    · rename_i hw; exact ⟨undef, C, .inl ⟨by simpa using hw, rfl, rfl⟩, h⟩
  · rename_i h0 h1' h3' h4'
    unfold opEff at h
    split at h
    · rename_i hw; obtain ⟨v, D, h1, hD, h2⟩ := h; exact ⟨v, D, .inr ⟨hw, .inr (.inr (.inr ⟨h0, h1', h3', h1, hD, fun e => (h4' e).elim⟩))⟩, h2⟩
    · rename_i hw; exact ⟨undef, C, .inl ⟨by simpa using hw, rfl, rfl⟩, h⟩

theorem Res.of_same {k : Nat} {o : Oper} {v : Value} {C D : World → Prop} {a a' : Act} (hr : Res P ops S k o v C D a) (he : execOp a'.eval o = execOp a.eval o)
    (hw : Region.wanted o (yielded ops a'.tmps) = Region.wanted o (yielded ops a.tmps)) : Res P ops S k o v C D a' := by
  unfold Res sq Oper.quietAt at *
  rw [he, hw]
  exact hr

/-- A quiet operation leaves the class. -/
theorem Res.same {k : Nat} {o : Oper} {v : Value} {C D : World → Prop} {a : Act} (hr : Res P ops S k o v C D a) (hk : k = 0 ∨ k = 1 ∨ k = 3) : D = C := by
  rcases hr with ⟨_, _, e⟩ | ⟨_, ⟨_, _, e⟩ | ⟨_, _, e⟩ | ⟨_, _, e⟩ | ⟨k0, k1, k3, _, _⟩⟩
  · exact e
  · exact e
  · exact e
  · exact e
  · rcases hk with h | h | h
    · exact absurd h k0
    · exact absurd h k1
    · exact absurd h k3
/-- Two operations, apart from one another, whose kinds do not clash: they may be exchanged. -/
theorem opW_put {ki kj : Nat} {oi oj : Oper} {v : Value} (hk : cmpB ki kj = true) (hap : oi.apart ops oj = true)
    (hsi : ∀ cs b, oi.op ≠ .select cs b) (hsj : ∀ cs b, oj.op ≠ .select cs b) {K : (World → Prop) → Act → Prop} {C D : World → Prop} {a : Act}
    (hy : Res P ops S ki oi v C D a) (h : opW P ops S kj oj K D (a.put oi.dst v)) :
    opW P ops S kj oj (fun C' a' => ∃ D', Res P ops S ki oi v C' D' a' ∧ K D' (a'.put oi.dst v)) C a := by
  have hk := cmpB_spec hk
  obtain ⟨h1, h2, h3⟩ := Oper.apart_spec hap
  have keep : ∀ (a : Act) C D, Res P ops S ki oi v C D a → ∀ u, Res P ops S ki oi v C D (a.put oj.dst u) := fun a C D hy u =>
    hy.of_same (execOp_put oi hsi a oj.dst u h3) (wanted_put oi a oj.dst u h3)
  obtain ⟨u, D', hj, hK⟩ := res_of_opW h
  have hj' : Res P ops S kj oj u D D' a := hj.of_same (execOp_put oj hsj a oi.dst v h1).symm (wanted_put oj a oi.dst v h1).symm
  have hK' : K D' ((a.put oj.dst u).put oi.dst v) := by rw [← Act.put_comm a v u h2]; exact hK
  -- oi's class: C to D; oj's, behind it: D to D'
  by_cases hD : D = C
  · subst hD
    refine hj'.opW ⟨D', ?_, hK'⟩
    -- oi behind oj
    rcases hy with ⟨hw, hv, _⟩ | ⟨hw, hy⟩
    · exact keep _ _ _ (.inl ⟨hw, hv, rfl⟩) u
    · rcases hy with ⟨hk0, hs, _⟩ | ⟨hk1, hs, _⟩ | ⟨hk3, hs, _⟩ | ⟨k0, k1, k3, hs, hg, h4⟩
      · exact keep _ _ _ (.inr ⟨hw, .inl ⟨hk0, hs, rfl⟩⟩) u
      · -- pinned: oj must leave the class
        have hDD : D' = D := hj'.same (by omega)
        subst hDD
        exact keep _ _ _ (.inr ⟨hw, .inr (.inl ⟨hk1, hs, rfl⟩)⟩) u
      · -- held: oj may make new memory
        have hcl : ∀ w, D' w → Cl D w := by
          rcases (show kj = 4 ∨ (kj = 0 ∨ kj = 1 ∨ kj = 3) by omega) with e4 | hq
          · rcases hj' with ⟨_, _, e⟩ | ⟨_, ⟨_, _, e⟩ | ⟨_, _, e⟩ | ⟨_, _, e⟩ | ⟨_, _, _, _, _, h4⟩⟩
            · exact fun w hw => Cl.refl (e ▸ hw)
            · exact fun w hw => Cl.refl (e ▸ hw)
            · exact fun w hw => Cl.refl (e ▸ hw)
            · exact fun w hw => Cl.refl (e ▸ hw)
            · exact h4 e4
          · have e := hj'.same hq
            exact fun w hw => Cl.refl (e ▸ hw)
        exact keep _ _ _ (.inr ⟨hw, .inr (.inr (.inl ⟨hk3, fun w hw => hs w (Cl.trans hcl hw), rfl⟩))⟩) u
      · have hDD : D' = D := hj'.same (by omega)
        subst hDD
        exact keep _ _ _ (.inr ⟨hw, .inr (.inr (.inr ⟨k0, k1, k3, hs, hg, h4⟩))⟩) u
  · -- oi writes: oj is quiet in all of S
    have hki : ki ≠ 0 ∧ ki ≠ 1 ∧ ki ≠ 3 := by
      rcases hy with ⟨_, _, e⟩ | ⟨_, ⟨_, _, e⟩ | ⟨_, _, e⟩ | ⟨_, _, e⟩ | ⟨k0, k1, k3, _, _⟩⟩
      · exact absurd e hD
      · exact absurd e hD
      · exact absurd e hD
      · exact absurd e hD
      · exact ⟨k0, k1, k3⟩
    have hkj : kj = 0 := by omega
    have hj2 : Res P ops S kj oj u C C a ∧ D' = D := by
      rcases hj' with ⟨hw, hv, e⟩ | ⟨hw, ⟨hk0, hs, e⟩ | ⟨hk1, _, _⟩ | ⟨hk3, _, _⟩ | ⟨k0, _, _⟩⟩
      · exact ⟨.inl ⟨hw, hv, rfl⟩, e⟩
      · exact ⟨.inr ⟨hw, .inl ⟨hk0, hs, rfl⟩⟩, e⟩
      · omega
      · omega
      · exact absurd hkj k0
    obtain ⟨hj2, rfl⟩ := hj2
    exact hj2.opW ⟨D', keep _ _ _ hy u, hK'⟩

/-- An operation that may come up now may be taken first. -/
theorem wpAnyW_first {ks : List Nat} {Q : (World → Prop) → Act → Prop} {i : Nat} {oi : Oper} {v : Value} (hi : ops[i]? = some oi) (hsel : ∀ (j : Nat) (o : Oper) cs b, ops[j]? = some o → o.op ≠ .select cs b) :
    ∀ (fuel : Nat) (listed : Array Bool) (C D : World → Prop) (a : Act), Good S C → DC md ops listed →
      (∀ j oj, ops[j]? = some oj → j ≠ i → listed.getD j true = false → (∀ e ∈ oj.after, Region.binds md e = true → e.on ≠ i) → oi.apart ops oj = true) →
      (∀ j, j ≠ i → listed.getD j true = false → j ∉ descs md ops i → cmpB (ks.getD i 0) (ks.getD j 0) = true) →
      i ∈ Region.ready md ops listed → Res P ops S (ks.getD i 0) oi v C D a →
      wpAnyW P md ops S ks Q fuel (listed.setIfInBounds i true) D (a.put oi.dst v) → wpAnyW P md ops S ks Q (fuel + 1) listed C a := by
  intro fuel
  induction fuel with
  | zero =>
    intro listed C D a _ _ _ _ hr hy H
    refine ⟨fun h => (by rw [h] at hr; cases hr), fun j hj => ?_⟩
    by_cases hji : j = i
    · subst hji; unfold qOpW; simp only [hi]; exact hy.opW H
    · have := ready_mono hj hji
      rw [H.1] at this
      cases this
  | succ fuel ih =>
    intro listed C D a hC hd hfree hcomp hr hy H
    refine ⟨fun h => (by rw [h] at hr; cases hr), fun j hj => ?_⟩
    by_cases hji : j = i
    · subst hji; unfold qOpW; simp only [hi]; exact hy.opW H
    · have h1 := H.2 j (ready_mono hj hji)
      obtain ⟨hjun, oj, hoj, hall⟩ := mem_ready.1 hj
      have hnot : ∀ e ∈ oj.after, Region.binds md e = true → e.on ≠ i := fun e he hb heq => by
        have h1 := hall e he hb
        have h0 := (mem_ready.1 hr).1
        rw [heq] at h1
        rcases Nat.lt_or_ge i listed.size with h' | h'
        · simp [h'] at h0 h1; rw [h0] at h1; cases h1
        · simp [Array.getElem?_eq_none h'] at h1
      have hiun := (mem_ready.1 hr).1
      unfold qOpW at h1
      simp only [hoj] at h1
      have h2 := opW_put (hcomp j hji hjun (not_desc hd hiun hj hji)) (hfree j oj hoj hji hjun hnot) (fun cs b => hsel i oi cs b hi) (fun cs b => hsel j oj cs b hoj) hy h1
      have hfree' : ∀ k ok, ops[k]? = some ok → k ≠ i → (listed.setIfInBounds j true).getD k true = false →
          (∀ e ∈ ok.after, Region.binds md e = true → e.on ≠ i) → oi.apart ops ok = true := fun k ok hk hki hun hno => by
        refine hfree k ok hk hki ?_ hno
        by_cases hjk : j = k
        · subst hjk; exact hjun
        · rw [getD_set_ne true hjk] at hun; exact hun
      have hcomp' : ∀ k, k ≠ i → (listed.setIfInBounds j true).getD k true = false → k ∉ descs md ops i → cmpB (ks.getD i 0) (ks.getD k 0) = true := fun k hki hun hno => by
        refine hcomp k hki ?_ hno
        by_cases hjk : j = k
        · subst hjk; exact hjun
        · rw [getD_set_ne true hjk] at hun; exact hun
      unfold qOpW
      simp only [hoj]
      refine opW_mono hC (fun C' a' hC' h3 => ?_) h2
      obtain ⟨D', h3, h4⟩ := h3
      refine ih (listed.setIfInBounds j true) C' D' a' hC' (dc_set hd hj) hfree' hcomp' (ready_mono hr (Ne.symm hji)) h3 ?_
      rw [Array.setIfInBounds_comm _ _ hji]
      exact h4

theorem res_good {k : Nat} {o : Oper} {v : Value} {C D : World → Prop} {a : Act} (hC : Good S C) (h : Res P ops S k o v C D a) : Good S D := by
  rcases h with ⟨_, _, e⟩ | ⟨_, ⟨_, _, e⟩ | ⟨_, _, e⟩ | ⟨_, _, e⟩ | ⟨_, _, _, _, e, _⟩⟩
  · exact e ▸ hC
  · exact e ▸ hC
  · exact e ▸ hC
  · exact e ▸ hC
  · exact e

theorem wpAnyW_lex {ks : List Nat} {Q : (World → Prop) → Act → Prop} (hs : Region.noSelect ops = true)
    (hcomp : ∀ i j, i < j → cmpB (ks.getD i 0) (ks.getD j 0) = true ∨ j ∈ descs md ops i ∨ ops.size ≤ j) : ∀ (l : List Oper) (k : Nat) (listed : Array Bool) (C : World → Prop) (a : Act), Good S C → DC md ops listed → (∀ j, j < k → listed.getD j true = true) → listed.size = ops.size → (∀ j, l[j]? = ops[k + j]?) →
    Region.lexFrom md ops l.length k listed = true → wpStage P ops S Q (ks.drop k) l C a → wpAnyW P md ops S ks Q l.length listed C a
  | [], k, _, _, _, _, _, _, _, _, hB, h => ⟨by simpa [Region.lexFrom] using hB, by cases hk : ks.drop k <;> rw [hk] at h <;> exact h⟩
  | o :: l, k, listed, C, a, hC, hd, hlow, hsz, hl, hB, h => by
    have h0 : ops[k]? = some o := by simpa using (hl 0).symm
    simp only [List.length_cons, Region.lexFrom, Bool.and_eq_true] at hB
    obtain ⟨⟨hr, hf⟩, hB'⟩ := hB
    have hr' : k ∈ Region.ready md ops listed := by simpa using hr
    have e1 : (ks.drop k).headD 0 = ks.getD k 0 := by
      rw [List.headD_eq_head?_getD, List.head?_drop, List.getD_eq_getElem?_getD]
    have e2 : (ks.drop k).tail = ks.drop (k + 1) := by rw [List.tail_drop]
    have h' : opW P ops S (ks.getD k 0) o (wpStage P ops S Q (ks.drop (k + 1)) l) C a := by
      rw [← e1, ← e2]; exact h
    obtain ⟨v, D, hy, hK⟩ := res_of_opW h'
    refine wpAnyW_first h0 (Region.noSelect_spec hs) l.length listed C D a hC hd (Region.free_spec h0 hf) (fun j hji hun hno => ?_) hr' hy
      (wpAnyW_lex hs hcomp l (k + 1) _ _ _ (res_good hC hy) (dc_set hd hr') (fun j hj => ?_) (by simp [hsz]) (fun j => by have := hl (j + 1); simpa [Nat.add_assoc, Nat.add_comm 1 j] using this) hB' hK)
    · have hkj : k < j := by
        rcases Nat.lt_trichotomy j k with h1 | h1 | h1
        · rw [hlow j h1] at hun; cases hun
        · exact absurd h1 hji
        · exact h1
      rcases hcomp k j hkj with h1 | h1 | h1
      · exact h1
      · exact absurd h1 hno
      · have := (Array.getElem?_eq_some_iff.1 (getD_true hun)).1
        omega
    · by_cases hjk : k = j
      · subst hjk
        have hlt : k < listed.size := by rw [hsz]; exact (Array.getElem?_eq_some_iff.1 h0).1
        simp [hlt]
      · rw [getD_set_ne true hjk]; exact hlow j (by omega)

theorem stagesB_spec {ks : List Nat} (h : stagesB md ops ks = true) : Region.noSelect ops = true ∧ Region.lexFrom md ops ops.size 0 (Array.replicate ops.size false) = true ∧
    ∀ i j, i < j → cmpB (ks.getD i 0) (ks.getD j 0) = true ∨ j ∈ descs md ops i ∨ ops.size ≤ j := by
  simp only [stagesB, Region.lexB, Bool.and_eq_true] at h
  refine ⟨h.1.1, h.1.2, fun i j hij => ?_⟩
  by_cases hj : j < ops.size
  · have h1 := List.all_eq_true.1 h.2 i (List.mem_range.2 (by omega))
    rw [Bool.or_eq_true] at h1
    rcases h1 with h1 | h1
    · exact .inl (by simp [cmpB]; simp at h1; exact .inl (.inl (.inl h1)))
    · have h2 := List.all_eq_true.1 h1 j (List.mem_range.2 hj)
      simp only [Bool.or_eq_true, decide_eq_true_eq, List.contains_iff_mem] at h2
      rcases h2 with (h2 | h2) | h2
      · omega
      · exact .inl h2
      · exact .inr (.inl h2)
  · exact .inr (.inr (by omega))

/-- A region that draws its order: ONE WALK IN THE ORDER OF THE TEXT, each operation of the kind that 'ks' says. -/
theorem wp_region_stages {id : Nat} {Q' : Exit → Act → World → Prop} {a : Act} {w : World} {l : List Oper} (ks : List Nat) (S C : World → Prop) (hm : P.follows .mixedOrders = true) (hB : stagesB .any l.toArray ks = true)
    (hG : Good S C) (hw : C w.drew)
    (h : wpStage P l.toArray S (fun C a' => ∀ w', C w' → Q' .normal a' w') ks l C a) : (Code.region id l.toArray true).wp P Q' a w := by
  obtain ⟨h1, h2, h3⟩ := stagesB_spec hB
  refine wp_region_any hm (wpAny_of_W (S := S) (ks := ks) (Q := fun C a' => ∀ w', C w' → Q' .normal a' w') (fun C a w hw h => h w hw) _ _ C _ _ hG hw ?_)
  have h4 := wpAnyW_lex (S := S) (md := .any) (ks := ks) (Q := fun C a' => ∀ w', C w' → Q' .normal a' w') h1 h3 l 0 (Array.replicate l.toArray.size false) C a hG (fun j o ho hl => by
    have hlt := (Array.getElem?_eq_some_iff.1 ho).1
    rw [Array.getElem?_replicate, if_pos hlt] at hl; cases hl) (fun j hj => by omega) (by simp) (by simp) (by simpa using h2) (by simpa using h)
  simpa using h4

theorem good_drewN {W : World} (h : ∀ n, S (W.drewN n)) : Good S (fun w' => ∃ n, w' = W.drewN n) :=
  ⟨fun w n ⟨m, hm⟩ => ⟨m + n, by rw [hm, World.drewN_drewN]⟩, fun w ⟨n, hn⟩ => hn ▸ h n⟩

/-- 'W, but for draws'. -/
abbrev Draws (W : World) : World → Prop := fun w' => ∃ n, w' = W.drewN n
theorem good_draws (W : World) : Good (fun _ => True) (Draws W) := good_drewN fun _ => trivial
theorem setCell_drewN (W : World) (n : Nat) (a : Addr) (v : Value) : (W.drewN n).setCell a v = (W.setCell a v).drewN n := rfl
theorem alloc_drewN (W : World) (n : Nat) (o : Obj) : (W.drewN n).alloc o = (W.alloc o).drewN n := rfl

/-- A call that writes, met by its contract, to 'W', but for draws'. ('apply': the first goal is the contract.) -/
theorem eff_draws {K : (World → Prop) → Act → Prop} {X : Nat → World} {W' : World} {f : FuncId} {args : Array Value} {v : Value} {A : Value → Act}
    (hc : ∀ n, Calls P f args (X n) fun e w'' => e = .returned v ∧ ∃ m, w'' = W'.drewN m) (hk : K (Draws W') (A v)) :
    ∃ v D, (∀ n, Calls P f args (X n) fun e w'' => e = .returned v ∧ D w'') ∧ Good (fun _ => True) D ∧ K D (A v) :=
  ⟨v, Draws W', hc, good_draws _, hk⟩
/-- A store (kind 2). -/
theorem eff_store {K : (World → Prop) → Act → Prop} {W : World} {x : Addr} {u : Value} {A : Value → Act}
    (hk : K (Draws (W.setCell x u)) (A undef)) :
    ∃ v D, (∀ n : Nat, v = undef ∧ D ((W.drewN n).setCell x u)) ∧ Good (fun _ => True) D ∧ K D (A v) :=
  ⟨undef, Draws (W.setCell x u), fun n => ⟨rfl, n, setCell_drewN _ _ _ _⟩, good_draws _, hk⟩
/-- A call that only reads (kind 1). -/
theorem pin_draws {K : (World → Prop) → Act → Prop} {X : Nat → World} {Y : Nat → Nat → World} {C : World → Prop} {f : FuncId} {args : Array Value} {v : Value} {A : Value → Act}
    (hc : ∀ n, Calls P f args (X n) fun e w'' => e = .returned v ∧ ∃ m, w'' = Y n m) (hk : K C (A v)) :
    ∃ v, (∀ n, Calls P f args (X n) fun e w'' => e = .returned v ∧ ∃ m, w'' = Y n m) ∧ K C (A v) := ⟨v, hc, hk⟩

/-- The same, the first class being 'the world at hand, but for draws'; nothing is known of every stage. -/
theorem wp_region_stages0 {id : Nat} {Q' : Exit → Act → World → Prop} {a : Act} {w : World} {l : List Oper} (ks : List Nat) (hm : P.follows .mixedOrders = true) (hB : stagesB .any l.toArray ks = true)
    (h : wpStage P l.toArray (fun _ => True) (fun C a' => ∀ w', C w' → Q' .normal a' w') ks l (Draws w) a) : (Code.region id l.toArray true).wp P Q' a w :=
  wp_region_stages ks _ _ hm hB (good_drewN fun _ => trivial) ⟨1, rfl⟩ h

/-- The same, with a class S of worlds of which something is known at every stage. -/
theorem wp_region_stagesS {id : Nat} {Q' : Exit → Act → World → Prop} {a : Act} {w : World} {l : List Oper} (ks : List Nat) (S : World → Prop) (hm : P.follows .mixedOrders = true) (hB : stagesB .any l.toArray ks = true) (hS : ∀ n, S (w.drewN n))
    (h : wpStage P l.toArray S (fun C a' => ∀ w', C w' → Q' .normal a' w') ks l (Draws w) a) : (Code.region id l.toArray true).wp P Q' a w :=
  wp_region_stages ks S _ hm hB (good_drewN hS) ⟨1, rfl⟩ h
/-- A call that writes, met by its contract, to a class of worlds. -/
theorem eff_class {S : World → Prop} {K : (World → Prop) → Act → Prop} {X : Nat → World} {f : FuncId} {args : Array Value} {v : Value} {A : Value → Act} (D : World → Prop)
    (hc : ∀ n, Calls P f args (X n) fun e w'' => e = .returned v ∧ D w'') (hD : Good S D) (hk : K D (A v)) :
    ∃ v D, (∀ n, Calls P f args (X n) fun e w'' => e = .returned v ∧ D w'') ∧ Good S D ∧ K D (A v) := ⟨v, D, hc, hD, hk⟩
theorem eff_classC {S : World → Prop} {K : (World → Prop) → Act → Prop} {C : World → Prop} {f : FuncId} {args : Array Value} {v : Value} {A : Value → Act} (D : World → Prop)
    (hc : ∀ n, C n → Calls P f args n fun e w'' => e = .returned v ∧ D w'') (hD : Good S D) (hk : K D (A v)) :
    ∃ v D, (∀ n, C n → Calls P f args n fun e w'' => e = .returned v ∧ D w'') ∧ Good S D ∧ K D (A v) := ⟨v, D, hc, hD, hk⟩
/-- A call that makes new memory alone. -/
theorem new_class {S : World → Prop} {K : (World → Prop) → Act → Prop} {C : World → Prop} {X : Nat → World} {f : FuncId} {args : Array Value} {v : Value} {A : Value → Act} (D : World → Prop)
    (hc : ∀ n, Calls P f args (X n) fun e w'' => e = .returned v ∧ D w'') (hD : Good S D) (hn : ∀ w, D w → Cl C w) (hk : K D (A v)) :
    ∃ v D, (∀ n, Calls P f args (X n) fun e w'' => e = .returned v ∧ D w'') ∧ (Good S D ∧ ∀ w, D w → Cl C w) ∧ K D (A v) := ⟨v, D, hc, ⟨hD, hn⟩, hk⟩
theorem new_classC {S : World → Prop} {K : (World → Prop) → Act → Prop} {C : World → Prop} {f : FuncId} {args : Array Value} {v : Value} {A : Value → Act} (D : World → Prop)
    (hc : ∀ n, C n → Calls P f args n fun e w'' => e = .returned v ∧ D w'') (hD : Good S D) (hn : ∀ w, D w → Cl C w) (hk : K D (A v)) :
    ∃ v D, (∀ n, C n → Calls P f args n fun e w'' => e = .returned v ∧ D w'') ∧ (Good S D ∧ ∀ w, D w → Cl C w) ∧ K D (A v) := ⟨v, D, hc, ⟨hD, hn⟩, hk⟩
/-- A call that only reads (kind 1), in a class of worlds. -/
theorem pin_class {K : (World → Prop) → Act → Prop} {C : World → Prop} {f : FuncId} {args : Array Value} {v : Value} {A : Value → Act}
    (hc : ∀ n, C n → Calls P f args n fun e w'' => e = .returned v ∧ ∃ m, w'' = n.drewN m) (hk : K C (A v)) :
    ∃ v, (∀ n, C n → Calls P f args n fun e w'' => e = .returned v ∧ ∃ m, w'' = n.drewN m) ∧ K C (A v) := ⟨v, hc, hk⟩
/-- The same by the operation itself. -/
theorem stage_new_v {Q : (World → Prop) → Act → Prop} {ks : List Nat} {o : Oper} {rest : List Oper} {C : World → Prop} {a : Act} (hw : Region.wanted o (yielded ops a.tmps) = true) (v : Value) (D : World → Prop)
    (h1 : ∀ w, C w → effUpon P v D ((execOp a.eval o).run P w)) (hD : Good S D) (hn : ∀ w, D w → Cl C w)
    (h : wpStage P ops S Q ks rest D (a.put o.dst v)) : wpStage P ops S Q (4 :: ks) (o :: rest) C a := by
  show opNew P ops S o (wpStage P ops S Q ks rest) C a
  simp only [opNew, hw, if_true]; exact ⟨v, D, h1, ⟨hD, hn⟩, h⟩
theorem stage_hold_v {Q : (World → Prop) → Act → Prop} {ks : List Nat} {o : Oper} {rest : List Oper} {C : World → Prop} {a : Act} (hw : Region.wanted o (yielded ops a.tmps) = true) (v : Value) (h1 : sq P o a (Cl C) v)
    (h : wpStage P ops S Q ks rest C (a.put o.dst v)) : wpStage P ops S Q (3 :: ks) (o :: rest) C a := by
  show opHold P ops o (wpStage P ops S Q ks rest) C a
  simp only [opHold, hw, if_true]; exact ⟨v, h1, h⟩
/-- A conversion that only reads. -/
theorem sq_convert {o : Oper} {a : Act} {X : World → Prop} {v : Value} (src dst : TypeId) (x : Operand) (ho : o.op = .convert src dst x) (h : ∀ w, X w → (convert src dst (a.eval x)).run P w = .ok v w) : sq P o a X v := by
  intro w hw
  have h1 := h w hw
  simp only [Oper.quietAt, execOp, ho, Sem.run_bind, h1, Result.andThen]
  exact ⟨rfl, rfl⟩

/-- An operation that is quiet in every world. -/
theorem stage_anyT {Q : (World → Prop) → Act → Prop} {ks : List Nat} {o : Oper} {rest : List Oper} {C : World → Prop} {a : Act}
    (h : ∀ K : (World → Prop) → Act → Prop, (∀ C a, wpStage P ops S Q ks rest C a → K C a) → opAny P ops (fun _ => True) o K C a) : wpStage P ops S Q (0 :: ks) (o :: rest) C a := by
  have h1 := h _ fun _ _ h => h
  show opAny P ops S o (wpStage P ops S Q ks rest) C a
  unfold opAny at h1 ⊢
  split
  · rename_i hw
    rw [if_pos hw] at h1
    obtain ⟨v, h2, h3⟩ := h1
    exact ⟨v, fun w _ => h2 w trivial, h3⟩
  · rename_i hw
    rw [if_neg hw] at h1
    exact h1

/-- A store into a map. -/
theorem eff_mapUpdate {o : Oper} {a : Act} {C D : World → Prop} (T : TypeId) (m k v : Operand) (ho : o.op = .mapUpdate T m k v) (h : ∀ w, C w → ∃ w', (Instr.mapUpdate T (a.eval m) (a.eval k) (a.eval v)).run P w = .ok () w' ∧ D w') :
    ∀ w, C w → effUpon P undef D ((execOp a.eval o).run P w) := by
  intro w hw
  obtain ⟨w', h1, h2⟩ := h w hw
  simp only [execOp, ho, Sem.run_bind, h1, Result.andThen]
  exact ⟨rfl, h2⟩

theorem stage_skip {Q : (World → Prop) → Act → Prop} {ks : List Nat} {k : Nat} {o : Oper} {rest : List Oper} {C : World → Prop} {a : Act} (hw : Region.wanted o (yielded ops a.tmps) = false)
    (h : wpStage P ops S Q ks rest C (a.put o.dst undef)) : wpStage P ops S Q (k :: ks) (o :: rest) C a := by
  show opW P ops S k o (wpStage P ops S Q ks rest) C a
  unfold opW
  split <;> simp only [opAny, opPin, opEff, opHold, opNew, hw, Bool.false_eq_true, if_false] <;> exact h
theorem stage_any_v {Q : (World → Prop) → Act → Prop} {ks : List Nat} {o : Oper} {rest : List Oper} {C : World → Prop} {a : Act} (hw : Region.wanted o (yielded ops a.tmps) = true) (v : Value) (h1 : sq P o a S v)
    (h : wpStage P ops S Q ks rest C (a.put o.dst v)) : wpStage P ops S Q (0 :: ks) (o :: rest) C a := by
  show opAny P ops S o (wpStage P ops S Q ks rest) C a
  simp only [opAny, hw, if_true]; exact ⟨v, h1, h⟩
theorem stage_pin_v {Q : (World → Prop) → Act → Prop} {ks : List Nat} {o : Oper} {rest : List Oper} {C : World → Prop} {a : Act} (hw : Region.wanted o (yielded ops a.tmps) = true) (v : Value) (h1 : sq P o a C v)
    (h : wpStage P ops S Q ks rest C (a.put o.dst v)) : wpStage P ops S Q (1 :: ks) (o :: rest) C a := by
  show opPin P ops o (wpStage P ops S Q ks rest) C a
  simp only [opPin, hw, if_true]; exact ⟨v, h1, h⟩
theorem stage_eff_v {Q : (World → Prop) → Act → Prop} {ks : List Nat} {o : Oper} {rest : List Oper} {C : World → Prop} {a : Act} (hw : Region.wanted o (yielded ops a.tmps) = true) (v : Value) (D : World → Prop)
    (h1 : ∀ w, C w → effUpon P v D ((execOp a.eval o).run P w)) (hD : Good S D)
    (h : wpStage P ops S Q ks rest D (a.put o.dst v)) : wpStage P ops S Q (2 :: ks) (o :: rest) C a := by
  show opEff P ops S o (wpStage P ops S Q ks rest) C a
  simp only [opEff, hw, if_true]; exact ⟨v, D, h1, hD, h⟩
end

attribute [go_sem] opAny opPin opEff opHold opNew sq effUpon
end Go.Proofs.Ytdlplablojdjlaa
