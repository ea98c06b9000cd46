/- A region that draws its order, walked once in an order of one's own choice; for every region that passes a test on its edges; no other condition. -/
import Derived.Test.YtdlplablojdjlaaRow
namespace Go.Proofs.Ytdlplablojdjlaa
open Go

section
variable {P : Program} {ops : Array Oper} {md : Region.Mode} {S : World → Prop}
def cmpAt (ops : Array Oper) (kf : Nat → Oper → Nat) (i j : Nat) : Bool :=
  match ops[i]?, ops[j]? with
  | some oi, some oj => cmpB (kf i oi) (kf j oj)
  | _, _ => true
def ordB (md : Region.Mode) (ops : Array Oper) (kf : Nat → Oper → Nat) : List Nat → Array Bool → Bool
  | [], listed => (Region.ready md ops listed).isEmpty
  | i :: is, listed => (Region.ready md ops listed).contains i && Region.free md ops listed i && ((List.range ops.size).all fun j => j == i || listed.getD j true || cmpAt ops kf i j || (descs md ops i).contains j) && ordB md ops kf is (listed.setIfInBounds i true)
def wpOrd (P : Program) (ops : Array Oper) (S : World → Prop) (kf : Nat → Oper → Nat) (Q : World → Act → Prop) : List Nat → World → Act → Prop
  | [], w, a => Q w a
  | i :: is, w, a => match ops[i]? with
    | none => False
    | some o => op2 P ops S (kf i o) o (wpOrd P ops S kf Q is) w a
theorem any2_ord {kf : Nat → Oper → Nat} {Q : World → Act → Prop} (hs : Region.noSelect ops = true) : ∀ (is : List Nat) (listed : Array Bool) (w : World) (a : Act), (∀ n, S (w.drewN n)) → DC md ops listed →
    ordB md ops kf is listed = true → wpOrd P ops S kf Q is w a → any2 P md ops S kf Q is.length listed w a
  | [], listed, w, a, _, _, hB, h => ⟨by simpa [ordB] using hB, h⟩
  | i :: is, listed, w, a, hS, hd, hB, h => by
    unfold wpOrd at h
    cases h0 : ops[i]? with
    | none => rw [h0] at h; exact h.elim
    | some o =>
      rw [h0] at h
      simp only [ordB, Bool.and_eq_true] at hB
      obtain ⟨⟨⟨hr, hf⟩, hc⟩, hB'⟩ := hB
      have hr' : i ∈ Region.ready md ops listed := by simpa using hr
      refine any2_first h0 (Region.noSelect_spec hs) is.length listed w a hS hd (Region.free_spec h0 hf) (fun j oj hoj hji hun hno => ?_) hr'
        (op2_monoS hS (fun w' a' hS' h' => any2_ord hs is _ _ _ hS' (dc_set hd hr') hB' h') h)
      have hlt := (Array.getElem?_eq_some_iff.1 hoj).1
      have h1 := List.all_eq_true.1 hc j (List.mem_range.2 hlt)
      simp only [Bool.or_eq_true, beq_iff_eq, hji, false_or, hun, Bool.false_eq_true] at h1
      rcases h1 with h1 | h1
      · unfold cmpAt at h1
        rw [h0, hoj] at h1
        exact h1
      · exact absurd (by simpa using h1) hno
theorem wpOrd_of_reg {ov : List (Nat × Nat)} {rd : List FuncId} {Q : World → Act → Prop} {l : List Oper} (order : List Nat) (hn : ∀ k, k < order.length → order.idxOf (order.getD k 0) = k) : ∀ (is : List Nat) (k : Nat) (w : World) (a : Act), (∀ j, is[j]? = order[k + j]?) → (∀ j ∈ is, j < l.length) →
    wpReg P l.toArray S ov rd Q k (is.filterMap fun i => l[i]?) w a → wpOrd P l.toArray S (fun i o => kd ov rd (order.idxOf i) o) Q is w a
  | [], k, w, a, _, _, h => by
    rw [List.filterMap_nil, wpReg_nil] at h
    exact h
  | i :: is, k, w, a, ho, hlt, h => by
    have hi := hlt i (List.mem_cons_self ..)
    have hli : l[i]? = some (l[i]'hi) := List.getElem?_eq_getElem hi
    rw [List.filterMap_cons, hli] at h
    rw [wpReg_cons] at h
    have hk := ho 0
    simp only [List.getElem?_cons_zero, Nat.add_zero] at hk
    have hkl := (List.getElem?_eq_some_iff.1 hk.symm).1
    have hidx := hn k hkl
    rw [List.getD_eq_getElem?_getD, ← hk, Option.getD_some] at hidx
    unfold wpOrd
    have hai : l.toArray[i]? = some (l[i]'hi) := by simp
    rw [hai]
    simp only [hidx]
    exact op2_mono (fun w' a' h' => wpOrd_of_reg order hn is (k + 1) w' a' (fun j => by have := ho (j + 1); simpa [Nat.add_assoc, Nat.add_comm 1 j] using this) (fun j hj => hlt j (List.mem_cons_of_mem _ hj)) h') h
def ordOK (md : Region.Mode) (ops : Array Oper) (ov : List (Nat × Nat)) (rd : List FuncId) (order : List Nat) : Bool :=
  Region.noSelect ops && order.length == ops.size && ((List.range order.length).all fun k => order.idxOf (order.getD k 0) == k && decide (order.getD k 0 < ops.size)) && ordB md ops (fun i o => kd ov rd (order.idxOf i) o) order (Array.replicate ops.size false)
/-- THE WALK IN THE ORDER 'order'; ov: kinds by place IN THAT ORDER. -/
theorem wp_regionO {id : Nat} {Q' : Exit → Act → World → Prop} {a : Act} {w : World} {l : List Oper} (order : List Nat) (ov : List (Nat × Nat)) (rd : List FuncId) (S : World → Prop) (hm : P.follows .mixedOrders = true) (hB : ordOK .any l.toArray ov rd order = true)
    (hS : ∀ n, S (w.drewN n)) {l' : List Oper} (hl : (order.filterMap fun i => l[i]?) = l') (h : wpReg P l.toArray S ov rd (fun w' a' => ∀ n, Q' .normal a' (w'.drewN n)) 0 l' w a) : (Code.region id l.toArray true).wp P Q' a w := by
  subst hl
  simp only [ordOK, Bool.and_eq_true, beq_iff_eq] at hB
  obtain ⟨⟨⟨h1, h2⟩, h3⟩, h4⟩ := hB
  have h3' : ∀ k, k < order.length → order.idxOf (order.getD k 0) = k ∧ order.getD k 0 < l.length := fun k hk => by
    have := List.all_eq_true.1 h3 k (List.mem_range.2 hk)
    simp only [Bool.and_eq_true, beq_iff_eq, decide_eq_true_eq] at this
    exact ⟨this.1, this.2⟩
  refine wp_region_any hm ?_
  have h5 := wpOrd_of_reg (P := P) (S := S) (ov := ov) (rd := rd) (Q := fun w' a' => ∀ n, Q' .normal a' (w'.drewN n)) (l := l) order (fun k hk => (h3' k hk).1) order 0 w a (fun j => by rw [Nat.zero_add]) (fun j hj => by
    obtain ⟨k, hk⟩ := List.getElem?_of_mem hj
    have hkl := (List.getElem?_eq_some_iff.1 hk).1
    have := (h3' k hkl).2
    rwa [List.getD_eq_getElem?_getD, hk, Option.getD_some] at this) h
  have h6 := any2_ord (P := P) (md := .any) (S := S) h1 order (Array.replicate l.toArray.size false) w a hS (fun j o ho hl => by
        have hlt := (Array.getElem?_eq_some_iff.1 ho).1
        rw [Array.getElem?_replicate, if_pos hlt] at hl; cases hl) h4 h5
  rw [h2] at h6
  have h7 := wpAny_of_2 (Q' := Q') (fun w a h => h) _ _ w a hS h6 1
  show wpAny P .any l.toArray Q' l.toArray.size (Array.replicate l.toArray.size false) a (w.drewN 1)
  simpa using h7
theorem wp_regionO2 {id : Nat} {Q' : Exit → Act → World → Prop} {a : Act} {w : World} {l : List Oper} (order : List Nat) (ov : List (Nat × Nat)) (rd : List FuncId) (hm : P.follows .mixedOrders = true) (hB : ordOK .any l.toArray ov rd order = true)
    {l' : List Oper} (hl : (order.filterMap fun i => l[i]?) = l') (h : wpReg P l.toArray (fun _ => True) ov rd (fun w' a' => ∀ n, Q' .normal a' (w'.drewN n)) 0 l' w a) : (Code.region id l.toArray true).wp P Q' a w :=
  wp_regionO order ov rd _ hm hB (fun _ => trivial) hl h
end
end Go.Proofs.Ytdlplablojdjlaa
