/- A region that draws its order, walked along a tree of orders: where two of its operations make memory whichever comes first, the walk parts in two; for every region that passes a test on its edges; no other condition. -/
import Derived.Test.YtdlplablojdjlaaRegO
namespace Go.Proofs.Ytdlplablojdjlaa
open Go

section
variable {P : Program} {ops : Array Oper} {md : Region.Mode} {S : World → Prop}
inductive Tr where
  | nil : Tr
  | go (i : Nat) (t : Tr) : Tr
  | fork (i : Nat) (t : Tr) (j : Nat) (u : Tr) : Tr
  | fork3 (i : Nat) (t : Tr) (j : Nat) (u : Tr) (k : Nat) (v : Tr) : Tr
def opAt (P : Program) (ops : Array Oper) (S : World → Prop) (kf : Nat → Oper → Nat) (i : Nat) (K : World → Act → Prop) (w : World) (a : Act) : Prop :=
  match ops[i]? with
  | none => False
  | some o => op2 P ops S (kf i o) o K w a
def wpTr (P : Program) (ops : Array Oper) (S : World → Prop) (kf : Nat → Oper → Nat) (Q : World → Act → Prop) : Tr → World → Act → Prop
  | .nil, w, a => Q w a
  | .go i t, w, a => opAt P ops S kf i (wpTr P ops S kf Q t) w a
  | .fork i t j u, w, a => opAt P ops S kf i (wpTr P ops S kf Q t) w a ∧ opAt P ops S kf j (wpTr P ops S kf Q u) w a
  | .fork3 i t j u k v, w, a => opAt P ops S kf i (wpTr P ops S kf Q t) w a ∧ opAt P ops S kf j (wpTr P ops S kf Q u) w a ∧ opAt P ops S kf k (wpTr P ops S kf Q v) w a
def trB (md : Region.Mode) (ops : Array Oper) (kf : Nat → Oper → Nat) : Nat → Tr → Array Bool → Bool
  | 0, .nil, listed => (Region.ready md ops listed).isEmpty
  | n + 1, .go i t, listed => (Region.ready md ops listed).contains i && Region.free md ops listed i && ((List.range ops.size).all fun j => j == i || listed.getD j true || cmpAt ops kf i j || (descs md ops i).contains j) && trB md ops kf n t (listed.setIfInBounds i true)
  | n + 1, .fork i t j u, listed => (Region.ready md ops listed).contains i && ((Region.ready md ops listed).all fun k => k == i || k == j) && trB md ops kf n t (listed.setIfInBounds i true) && trB md ops kf n u (listed.setIfInBounds j true)
  | n + 1, .fork3 i t j u k v, listed => (Region.ready md ops listed).contains i && ((Region.ready md ops listed).all fun x => x == i || x == j || x == k) && trB md ops kf n t (listed.setIfInBounds i true) && trB md ops kf n u (listed.setIfInBounds j true) && trB md ops kf n v (listed.setIfInBounds k true)
  | _, _, _ => false
theorem any2_tr {kf : Nat → Oper → Nat} {Q : World → Act → Prop} (hs : Region.noSelect ops = true) : ∀ (n : Nat) (t : Tr) (listed : Array Bool) (w : World) (a : Act), (∀ n, S (w.drewN n)) → DC md ops listed →
    trB md ops kf n t listed = true → wpTr P ops S kf Q t w a → any2 P md ops S kf Q n listed w a
  | 0, .nil, listed, w, a, _, _, hB, h => ⟨by simpa [trB] using hB, h⟩
  | 0, .go _ _, listed, w, a, _, _, hB, h => by simp [trB] at hB
  | 0, .fork _ _ _ _, listed, w, a, _, _, hB, h => by simp [trB] at hB
  | 0, .fork3 _ _ _ _ _ _, listed, w, a, _, _, hB, h => by simp [trB] at hB
  | n + 1, .nil, listed, w, a, _, _, hB, h => by simp [trB] at hB
  | n + 1, .go i t, listed, w, a, hS, hd, hB, h => by
    unfold wpTr opAt at h
    cases h0 : ops[i]? with
    | none => rw [h0] at h; exact h.elim
    | some o =>
      rw [h0] at h
      simp only [trB, Bool.and_eq_true] at hB
      obtain ⟨⟨⟨hr, hf⟩, hc⟩, hB'⟩ := hB
      have hr' : i ∈ Region.ready md ops listed := by simpa using hr
      refine any2_first h0 (Region.noSelect_spec hs) n listed w a hS hd (Region.free_spec h0 hf) (fun j oj hoj hji hun hno => ?_) hr'
        (op2_monoS hS (fun w' a' hS' h' => any2_tr hs n t _ _ _ hS' (dc_set hd hr') hB' h') h)
      have hlt := (Array.getElem?_eq_some_iff.1 hoj).1
      have h1 := List.all_eq_true.1 hc j (List.mem_range.2 hlt)
      simp only [Bool.or_eq_true, beq_iff_eq, hji, false_or, hun, Bool.false_eq_true] at h1
      rcases h1 with h1 | h1
      · unfold cmpAt at h1
        rw [h0, hoj] at h1
        exact h1
      · exact absurd (by simpa using h1) hno
  | n + 1, .fork i t j u, listed, w, a, hS, hd, hB, h => by
    simp only [trB, Bool.and_eq_true] at hB
    obtain ⟨⟨⟨hr, hall⟩, hBt⟩, hBu⟩ := hB
    have hr' : i ∈ Region.ready md ops listed := by simpa using hr
    unfold wpTr at h
    have one : ∀ (k : Nat) (t : Tr), k ∈ Region.ready md ops listed → trB md ops kf n t (listed.setIfInBounds k true) = true → opAt P ops S kf k (wpTr P ops S kf Q t) w a →
        q2 P ops S kf k (any2 P md ops S kf Q n (listed.setIfInBounds k true)) w a := fun k t hk hBk hh => by
      unfold opAt at hh
      unfold q2
      cases h0 : ops[k]? with
      | none => rw [h0] at hh; exact hh.elim
      | some o =>
        rw [h0] at hh
        exact op2_monoS hS (fun w' a' hS' h' => any2_tr hs n t _ _ _ hS' (dc_set hd hk) hBk h') hh
    refine ⟨fun e => (by rw [e] at hr'; cases hr'), fun k hk => ?_⟩
    have h2 := List.all_eq_true.1 hall k hk
    simp only [Bool.or_eq_true, beq_iff_eq] at h2
    rcases h2 with rfl | rfl
    · exact one _ t hk hBt h.1
    · exact one _ u hk hBu h.2
  | n + 1, .fork3 i t j u k3 v, listed, w, a, hS, hd, hB, h => by
    simp only [trB, Bool.and_eq_true] at hB
    obtain ⟨⟨⟨⟨hr, hall⟩, hBt⟩, hBu⟩, hBv⟩ := hB
    have hr' : i ∈ Region.ready md ops listed := by simpa using hr
    unfold wpTr at h
    have one : ∀ (k : Nat) (t : Tr), k ∈ Region.ready md ops listed → trB md ops kf n t (listed.setIfInBounds k true) = true → opAt P ops S kf k (wpTr P ops S kf Q t) w a →
        q2 P ops S kf k (any2 P md ops S kf Q n (listed.setIfInBounds k true)) w a := fun k t hk hBk hh => by
      unfold opAt at hh
      unfold q2
      cases h0 : ops[k]? with
      | none => rw [h0] at hh; exact hh.elim
      | some o =>
        rw [h0] at hh
        exact op2_monoS hS (fun w' a' hS' h' => any2_tr hs n t _ _ _ hS' (dc_set hd hk) hBk h') hh
    refine ⟨fun e => (by rw [e] at hr'; cases hr'), fun k hk => ?_⟩
    have h2 := List.all_eq_true.1 hall k hk
    simp only [Bool.or_eq_true, beq_iff_eq] at h2
    rcases h2 with (rfl | rfl) | rfl
    · exact one _ t hk hBt h.1
    · exact one _ u hk hBu h.2.1
    · exact one _ v hk hBv h.2.2
/-- The tree, in stretches of operations; 'ovs': their kinds, by place in the stretch. -/
inductive Rt where
  | done : Rt
  | seq (is : List Nat) (ovs : List (Nat × Nat)) (t : Rt) : Rt
  | fork (i : Nat) (is : List Nat) (ovs : List (Nat × Nat)) (t : Rt) (j : Nat) (js : List Nat) (ows : List (Nat × Nat)) (u : Rt) : Rt
  | fork3 (i : Nat) (is : List Nat) (ovs : List (Nat × Nat)) (t : Rt) (j : Nat) (js : List Nat) (ows : List (Nat × Nat)) (u : Rt) (k : Nat) (ks : List Nat) (oxs : List (Nat × Nat)) (v : Rt) : Rt
def segs (t : Tr) : List Nat → Tr
  | [] => t
  | i :: is => .go i (segs t is)
def Rt.tr : Rt → Tr
  | .done => .nil
  | .seq is _ t => segs t.tr is
  | .fork i is _ t j js _ u => .fork i (segs t.tr is) j (segs u.tr js)
  | .fork3 i is _ t j js _ u k ks _ v => .fork3 i (segs t.tr is) j (segs u.tr js) k (segs v.tr ks)
def wpT (P : Program) (l : List Oper) (S : World → Prop) (rd : List FuncId) (Q : World → Act → Prop) : Rt → World → Act → Prop
  | .done, w, a => Q w a
  | .seq is ovs t, w, a => wpReg P l.toArray S ovs rd (wpT P l S rd Q t) 0 (is.filterMap fun i => l[i]?) w a
  | .fork i is ovs t j js ows u, w, a => wpReg P l.toArray S ovs rd (wpT P l S rd Q t) 0 ((i :: is).filterMap fun i => l[i]?) w a ∧ wpReg P l.toArray S ows rd (wpT P l S rd Q u) 0 ((j :: js).filterMap fun i => l[i]?) w a
  | .fork3 i is ovs t j js ows u k ks oxs v, w, a => wpReg P l.toArray S ovs rd (wpT P l S rd Q t) 0 ((i :: is).filterMap fun i => l[i]?) w a ∧ wpReg P l.toArray S ows rd (wpT P l S rd Q u) 0 ((j :: js).filterMap fun i => l[i]?) w a ∧ wpReg P l.toArray S oxs rd (wpT P l S rd Q v) 0 ((k :: ks).filterMap fun i => l[i]?) w a
/-- The kinds of a stretch are those by the operations' own places. -/
def segB (l : List Oper) (ov ovs : List (Nat × Nat)) (rd : List FuncId) : Nat → List Nat → Bool
  | _, [] => true
  | k, i :: is => (match l[i]? with | none => false | some o => kd ovs rd k o == kd ov rd i o) && segB l ov ovs rd (k + 1) is
def Rt.segsB (l : List Oper) (ov : List (Nat × Nat)) (rd : List FuncId) : Rt → Bool
  | .done => true
  | .seq is ovs t => segB l ov ovs rd 0 is && t.segsB l ov rd
  | .fork i is ovs t j js ows u => segB l ov ovs rd 0 (i :: is) && t.segsB l ov rd && (segB l ov ows rd 0 (j :: js) && u.segsB l ov rd)
  | .fork3 i is ovs t j js ows u k ks oxs v => segB l ov ovs rd 0 (i :: is) && t.segsB l ov rd && (segB l ov ows rd 0 (j :: js) && u.segsB l ov rd) && (segB l ov oxs rd 0 (k :: ks) && v.segsB l ov rd)
theorem wp_segs {l : List Oper} {ov ovs : List (Nat × Nat)} {rd : List FuncId} {Q R : World → Act → Prop} {t : Tr} (hQ : ∀ w a, R w a → wpTr P l.toArray S (fun i o => kd ov rd i o) Q t w a) : ∀ (is : List Nat) (k : Nat) (w : World) (a : Act), segB l ov ovs rd k is = true →
    wpReg P l.toArray S ovs rd R k (is.filterMap fun i => l[i]?) w a → wpTr P l.toArray S (fun i o => kd ov rd i o) Q (segs t is) w a
  | [], k, w, a, _, h => by
    rw [List.filterMap_nil, wpReg_nil] at h
    exact hQ w a h
  | i :: is, k, w, a, hB, h => by
    unfold segB at hB
    rw [Bool.and_eq_true] at hB
    obtain ⟨h1, h2⟩ := hB
    cases h0 : l[i]? with
    | none => rw [h0] at h1; cases h1
    | some o =>
      rw [h0] at h1
      rw [List.filterMap_cons, h0] at h
      rw [wpReg_cons] at h
      have e : kd ovs rd k o = kd ov rd i o := by simpa using h1
      rw [e] at h
      unfold segs wpTr opAt
      rw [show l.toArray[i]? = some o by simpa using h0]
      exact op2_mono (fun w' a' h' => wp_segs hQ is (k + 1) w' a' h2 h') h
theorem wpTr_of {l : List Oper} {ov : List (Nat × Nat)} {rd : List FuncId} {Q : World → Act → Prop} : ∀ (T : Rt) (w : World) (a : Act), T.segsB l ov rd = true → wpT P l S rd Q T w a → wpTr P l.toArray S (fun i o => kd ov rd i o) Q T.tr w a
  | .done, w, a, _, h => h
  | .seq is ovs t, w, a, hB, h => by
    unfold Rt.segsB at hB
    rw [Bool.and_eq_true] at hB
    exact wp_segs (fun w a h => wpTr_of t w a hB.2 h) is 0 w a hB.1 h
  | .fork i is ovs t j js ows u, w, a, hB, h => by
    unfold Rt.segsB at hB
    simp only [Bool.and_eq_true] at hB
    obtain ⟨⟨h1, h2⟩, h3, h4⟩ := hB
    have e1 := wp_segs (fun w a h => wpTr_of t w a h2 h) (i :: is) 0 w a h1 h.1
    have e2 := wp_segs (fun w a h => wpTr_of u w a h4 h) (j :: js) 0 w a h3 h.2
    unfold Rt.tr wpTr
    unfold segs wpTr at e1 e2
    exact ⟨e1, e2⟩
  | .fork3 i is ovs t j js ows u k ks oxs v, w, a, hB, h => by
    unfold Rt.segsB at hB
    simp only [Bool.and_eq_true] at hB
    obtain ⟨⟨⟨h1, h2⟩, h3, h4⟩, h5, h6⟩ := hB
    have e1 := wp_segs (fun w a h => wpTr_of t w a h2 h) (i :: is) 0 w a h1 h.1
    have e2 := wp_segs (fun w a h => wpTr_of u w a h4 h) (j :: js) 0 w a h3 h.2.1
    have e3 := wp_segs (fun w a h => wpTr_of v w a h6 h) (k :: ks) 0 w a h5 h.2.2
    unfold Rt.tr wpTr
    unfold segs wpTr at e1 e2 e3
    exact ⟨e1, e2, e3⟩
def rtOK (md : Region.Mode) (l : List Oper) (ov : List (Nat × Nat)) (rd : List FuncId) (T : Rt) : Bool :=
  Region.noSelect l.toArray && T.segsB l ov rd && trB md l.toArray (fun i o => kd ov rd i o) l.length T.tr (Array.replicate l.toArray.size false)
/-- THE WALK ALONG A TREE. -/
theorem wp_regionT {id : Nat} {Q' : Exit → Act → World → Prop} {a : Act} {w : World} {l : List Oper} (T : Rt) (ov : List (Nat × Nat)) (rd : List FuncId) (hm : P.follows .mixedOrders = true) (hB : rtOK .any l ov rd T = true)
    (h : wpT P l (fun _ => True) rd (fun w' a' => ∀ n, Q' .normal a' (w'.drewN n)) T w a) : (Code.region id l.toArray true).wp P Q' a w := by
  simp only [rtOK, Bool.and_eq_true] at hB
  obtain ⟨⟨h1, h2⟩, h4⟩ := hB
  refine wp_region_any hm ?_
  have h5 := wpTr_of (P := P) (S := fun _ => True) (ov := ov) (rd := rd) (Q := fun w' a' => ∀ n, Q' .normal a' (w'.drewN n)) T w a h2 h
  have h6 := any2_tr (P := P) (md := .any) (S := fun _ => True) h1 l.length T.tr (Array.replicate l.toArray.size false) w a (fun _ => trivial) (fun j o ho hl => by
        have hlt := (Array.getElem?_eq_some_iff.1 ho).1
        rw [Array.getElem?_replicate, if_pos hlt] at hl; cases hl) h4 h5
  have h7 := wpAny_of_2 (Q' := Q') (fun w a h => h) _ _ w a (fun _ => trivial) h6 1
  show wpAny P .any l.toArray Q' l.toArray.size (Array.replicate l.toArray.size false) a (w.drewN 1)
  simpa using h7
theorem wpT_seq {l l' : List Oper} {rd : List FuncId} {Q : World → Act → Prop} {is : List Nat} {ovs : List (Nat × Nat)} {t : Rt} {w : World} {a : Act} (hl : (is.filterMap fun i => l[i]?) = l') (h : wpReg P l.toArray S ovs rd (wpT P l S rd Q t) 0 l' w a) : wpT P l S rd Q (.seq is ovs t) w a := by
  subst hl
  exact h
theorem wpT_fork {l l1 l2 : List Oper} {rd : List FuncId} {Q : World → Act → Prop} {i j : Nat} {is js : List Nat} {ovs ows : List (Nat × Nat)} {t u : Rt} {w : World} {a : Act} (hl : ((i :: is).filterMap fun i => l[i]?) = l1) (hl2 : ((j :: js).filterMap fun i => l[i]?) = l2)
    (h1 : wpReg P l.toArray S ovs rd (wpT P l S rd Q t) 0 l1 w a) (h2 : wpReg P l.toArray S ows rd (wpT P l S rd Q u) 0 l2 w a) : wpT P l S rd Q (.fork i is ovs t j js ows u) w a := by
  subst hl hl2
  exact ⟨h1, h2⟩
theorem wpT_fork3 {l l1 l2 l3 : List Oper} {rd : List FuncId} {Q : World → Act → Prop} {i j k : Nat} {is js ks : List Nat} {ovs ows oxs : List (Nat × Nat)} {t u v : Rt} {w : World} {a : Act} (hl : ((i :: is).filterMap fun i => l[i]?) = l1) (hl2 : ((j :: js).filterMap fun i => l[i]?) = l2) (hl3 : ((k :: ks).filterMap fun i => l[i]?) = l3)
    (h1 : wpReg P l.toArray S ovs rd (wpT P l S rd Q t) 0 l1 w a) (h2 : wpReg P l.toArray S ows rd (wpT P l S rd Q u) 0 l2 w a) (h3 : wpReg P l.toArray S oxs rd (wpT P l S rd Q v) 0 l3 w a) : wpT P l S rd Q (.fork3 i is ovs t j js ows u k ks oxs v) w a := by
  subst hl hl2 hl3
  exact ⟨h1, h2, h3⟩
theorem reg_nilT {ov : List (Nat × Nat)} {rd : List FuncId} {Q : World → Act → Prop} {i : Nat} {w : World} {a : Act} (h : Q w a) : wpReg P ops S ov rd Q i [] w a := by
  rw [wpReg_nil]
  exact h
theorem wpT_done {l : List Oper} {rd : List FuncId} {Q : World → Act → Prop} {w : World} {a : Act} (h : Q w a) : wpT P l S rd Q .done w a := h
end
end Go.Proofs.Ytdlplablojdjlaa
