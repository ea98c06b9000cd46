/- The laws on rarest: both boards, what a step does to what is known, and the code's operations whole; no condition but the table. -/
import Derived.Test.YtfopglaagnbacaaDoorRbA
import Derived.Test.YtfopglaagnbacaaDoorRwT
namespace Go.Proofs.YtfopglaagnbacaaDoor
open Go Go.RowKit

theorem del_at {α : Type} {ks : List (Int × α)} (hr : Rising ks) {i : Nat} {q : Int × α} (h : ks[i]? = some q) : delL ks q.1 = ks.take i ++ ks.drop (i + 1) := by
  induction ks generalizing i with
  | nil => simp at h
  | cons y t ih =>
    obtain ⟨h1, h2⟩ := List.pairwise_cons.1 hr
    cases i with
    | zero =>
      simp at h
      subst h
      unfold delL
      rw [List.filter_cons, if_neg (by simp)]
      show List.filter _ t = t
      rw [List.filter_eq_self]
      intro x hx
      have := h1 x hx
      simp; omega
    | succ i =>
      have h' : t[i]? = some q := by simpa using h
      have hq := h1 q (List.mem_of_getElem? h')
      have := ih h2 h'
      unfold delL at this ⊢
      rw [List.filter_cons, if_pos (by simp; omega), this]
      rfl

theorem ins_at {α : Type} (x : Int × α) : ∀ (ks : List (Int × α)) (k : Nat), (∀ (j : Nat) (q : Int × α), j < k → ks[j]? = some q → q.1 < x.1) → k ≤ ks.length → (∀ q, ks[k]? = some q → x.1 < q.1) → insS x ks = ks.take k ++ x :: ks.drop k
  | [], k, _, hk, _ => by simp at hk; subst hk; rfl
  | y :: t, 0, _, _, h2 => by
    have := h2 y rfl
    unfold insS
    rw [if_pos this]
    rfl
  | y :: t, k + 1, h1, hk, h2 => by
    have := h1 0 y (by omega) rfl
    unfold insS
    rw [if_neg (by omega), ins_at x t k (fun j q hj hq => h1 (j + 1) q (by omega) (by simpa using hq)) (by simpa using hk) (fun q hq => h2 q (by simpa using hq))]
    rfl

theorem put_at {α : Type} {ks : List (Int × α)} (hr : Rising ks) {i : Nat} {id : Int} {r : α} (h : ks[i]? = some (id, r)) (r' : α) : putL ks id r' = ks.set i (id, r') := by
  have hi := (List.getElem?_eq_some_iff.1 h).1
  unfold putL
  rw [del_at hr h]
  have hlow : ∀ (j : Nat) (q : Int × α), j < i → ks[j]? = some q → q.1 < id := by
    intro j q hj hq
    have hj' := (List.getElem?_eq_some_iff.1 hq).1
    have := List.pairwise_iff_getElem.1 hr j i hj' hi hj
    rw [(List.getElem?_eq_some_iff.1 hq).2, (List.getElem?_eq_some_iff.1 h).2] at this
    exact this
  have hhigh : ∀ (j : Nat) (q : Int × α), i < j → ks[j]? = some q → id < q.1 := by
    intro j q hj hq
    have hj' := (List.getElem?_eq_some_iff.1 hq).1
    have := List.pairwise_iff_getElem.1 hr i j hi hj' hj
    rw [(List.getElem?_eq_some_iff.1 hq).2, (List.getElem?_eq_some_iff.1 h).2] at this
    exact this
  have hlt : (ks.take i).length = i := by simp; omega
  rw [ins_at (id, r') (ks.take i ++ ks.drop (i + 1)) i ?_ (by simp; omega) ?_, List.take_append_of_le_length (by omega), List.take_of_length_le (by omega), List.drop_append_of_le_length (by omega), List.drop_of_length_le (by omega), List.nil_append, List.set_eq_take_append_cons_drop, if_pos hi]
  · intro j q hj hq
    rw [List.getElem?_append_left (by omega), List.getElem?_take, if_pos hj] at hq
    exact hlow j q hj hq
  · intro q hq
    rw [List.getElem?_append_right (by omega), hlt, Nat.sub_self, List.getElem?_drop] at hq
    exact hhigh _ q (by omega) hq

set_option maxRecDepth 100000 in
set_option maxHeartbeats 4000000 in
theorem rarePickNo (peer seed : Int) (so : Option Nat) (b M g n : Nat) (most : Int) (c : Nat → Int) (ks : List (Int × Ow)) (w : World) (h : BD w b M g n most c ks) (hI : I64 peer) (hbad : lkL ks peer = none ∨ so = none ∨ ∃ s sg n' f, so = some s ∧ BSet w s sg n' f ∧ n' ≠ n) :
    Calls Tryd.prog 21 #[.pointer (some ⟨b, 0, none⟩), .int .i64 peer, .pointer (so.map fun s => ⟨s, 0, none⟩), .int .u64 seed] w fun e w' => e = .returned (.int .i64 (-1)) ∧ Mod (fun _ => False) w w' := by
  have c2 := h.head.cell 2; have c0 := h.head.cell 0
  have hlk := h.map.lookOk Tryd.underlying3 Tryd.underlying73 (zeroPtr w) hI
  rw [lk_mpO] at hlk
  have hz := zeroPtr
  cases hl : lkL ks peer with
  | none =>
    rw [hl] at hlk
    simp only [Option.map_none, Option.getD_none, Option.isSome_none] at hlk
    obtain ⟨pv, hpv⟩ : ∃ p, p = so.map fun s => (⟨s, 0, none⟩ : Addr) := ⟨_, rfl⟩
    rw [← hpv]
    clear h hI hl hbad hpv
    go_enter Tryd.func21, Tryd.ntmps21
    go_upto_region 2 with fail
    go_quiet (fail)
    go_wp2_with fail
    go_ret
    exact ⟨rfl, (Mod.refl _ w).drewN _⟩
  | some o =>
    rw [hl] at hlk
    simp only [Option.map_some, Option.getD_some, Option.isSome_some] at hlk
    rcases hbad with hbad | rfl | ⟨s, sg, n', f, rfl, hs, hne⟩
    · rw [hl] at hbad; cases hbad
    · show Calls Tryd.prog 21 #[.pointer (some ⟨b, 0, none⟩), .int .i64 peer, .pointer none, .int .u64 seed] w _
      clear h hI hl
      go_enter Tryd.func21, Tryd.ntmps21
      go_upto_region 2 with fail
      go_quiet (fail)
      go_wp2_with fail
      go_ret
      exact ⟨rfl, (Mod.refl _ w).drewN _⟩
    · show Calls Tryd.prog 21 #[.pointer (some ⟨b, 0, none⟩), .int .i64 peer, .pointer (some ⟨s, 0, none⟩), .int .u64 seed] w _
      have HS := Lib.hid hs
      have hnn : ((n' : Int) != (n : Int)) = true := by simp; omega
      clear h hI hl hs hne
      go_enter Tryd.func21, Tryd.ntmps21
      go_upto_region 2 with fail
      clear hlk
      refine wp_region2 [] [28] (by kernel_rfl) (by kernel_rfl) ?_
      repeat (first | (refine reg_anyT (by rfl) (fun K hK => ?_); go_simp; refine hK _ _ ?_; clear hK K) | (refine reg_read (by rfl) (fun K hK => ?_); go_simp; refine hK _ _ ?_; clear hK K))
      refine reg_read (by rfl) (fun K hK => ?_); go_simp
      refine ⟨_, fun rn => rd_same (bitsLen s sg n' f _ (HS.out.drewN rn)), hK _ _ ?_⟩; clear hK K
      repeat (first | (refine reg_anyT (by rfl) (fun K hK => ?_); go_simp; refine hK _ _ ?_; clear hK K) | (refine reg_read (by rfl) (fun K hK => ?_); go_simp; refine hK _ _ ?_; clear hK K))
      refine reg_nil (fun nd => ?_)
      go_wp2_with fail
      go_ret
      exact ⟨rfl, (Mod.refl _ w).drewN _⟩

abbrev LB := List (Int × (Nat → Bool))
/-- The document's steps over what is known. -/
def setA (n : Nat) (most : Int) (L : LB) (peer : Int) (x : Option (Nat × (Nat → Bool))) : Int × LB :=
  match x with
  | none => (1, L)
  | some (m, f) => if (1 ≤ peer ∧ peer ≤ 65536) ∧ m = n then (if (lkL L peer).isSome = true ∨ (L.length : Int) < most then (0, putL L peer f) else (3, L)) else (1, L)
def addA (n : Nat) (L : LB) (peer k : Int) : Int × LB :=
  match lkL L peer with
  | none => (4, L)
  | some f => if 0 ≤ k ∧ k < n then (0, putL L peer (fil f k.toNat (k.toNat + 1) true)) else (1, L)
def goneA (L : LB) (peer : Int) : Int × LB := if (lkL L peer).isSome = true then (0, delL L peer) else (4, L)
def pickA (n : Nat) (L : LB) (peer : Int) (x : Option (Nat × (Nat → Bool))) (seed : Int) : Int :=
  match x with
  | none => -1
  | some (m, f) => if m = n then (match lkL L peer with | none => -1 | some o => pickR (cF L) (fLess o f) n seed) else -1
structure OkB (most : Int) (L : LB) : Prop where
  rise : Rising L
  len : (L.length : Int) ≤ most
  i64 : ∀ q ∈ L, I64 q.1
theorem len_put_known {α : Type} {L : List (Int × α)} (hr : Rising L) {p : Int} (h : (lkL L p).isSome = true) (v : α) : (putL L p v).length = L.length := by
  obtain ⟨o, ho⟩ := Option.isSome_iff_exists.1 h
  obtain ⟨i, hi⟩ := List.mem_iff_getElem?.1 (lk_some_mem ho)
  rw [put_at hr hi, List.length_set]
theorem OkB.set {n : Nat} {most : Int} {L : LB} (h : OkB most L) (peer : Int) (x : Option (Nat × (Nat → Bool))) : OkB most (setA n most L peer x).2 := by
  unfold setA
  cases x with
  | none => exact h
  | some q =>
    obtain ⟨m, f⟩ := q
    dsimp only
    split
    · split
      · rename_i hc
        rename_i hp
        refine ⟨rising_put h.rise _ _, ?_, fun q hq => (mem_putO hq).elim (fun e => by rw [e]; exact i64_of (by dsimp only; omega) (by dsimp only; omega)) (h.i64 q)⟩
        by_cases hk : (lkL L peer).isSome = true
        · rw [len_put_known h.rise hk]; exact h.len
        · have := len_putO L peer f
          have := hc.resolve_left hk
          dsimp only
          omega
      · exact h
    · exact h
theorem OkB.add {n : Nat} {most : Int} {L : LB} (h : OkB most L) (peer k : Int) : OkB most (addA n L peer k).2 := by
  unfold addA
  cases hl : lkL L peer with
  | none => exact h
  | some f =>
    dsimp only
    split
    · refine ⟨rising_put h.rise _ _, ?_, fun q hq => (mem_putO hq).elim (fun e => by rw [e]; exact (show I64 peer from h.i64 (peer, f) (lk_some_mem hl))) (h.i64 q)⟩
      dsimp only
      rw [len_put_known h.rise (by rw [hl]; rfl)]
      exact h.len
    · exact h
theorem OkB.gone {most : Int} {L : LB} (h : OkB most L) (peer : Int) : OkB most (goneA L peer).2 := by
  unfold goneA
  split
  · refine ⟨rising_del h.rise _, ?_, fun q hq => h.i64 q (List.mem_filter.1 hq).1⟩
    have : (delL L peer).length ≤ L.length := List.length_filter_le _ _
    have := h.len
    dsimp only
    omega
  · exact h

theorem BD.ext {w : World} {b M g n : Nat} {most : Int} {c c' : Nat → Int} {ks : List (Int × Ow)} (h : BD w b M g n most c ks) (e : ∀ k, k < n → c' k = c k) : BD w b M g n most c' ks :=
  ⟨h.head, h.map, h.cn.ext e, h.sets, h.ne, h.off, h.two, h.tab⟩
theorem BD.rising {w : World} {b M g n : Nat} {most : Int} {c : Nat → Int} {ks : List (Int × Ow)} (h : BD w b M g n most c ks) : Rising ks := by
  have := h.map.rising
  unfold mpO at this
  exact (rising_mapV (fun o : Ow => Value.pointer (some ⟨o.s, 0, none⟩))).1 this
theorem cO_cF (ks : List (Int × Ow)) (j : Nat) : cO ks j = cF (mapV Ow.f ks) j := by rw [cF_mapV]; rfl

/-- What a step of the code leaves. -/
def CodeP (b M g n : Nat) (most : Int) (ks : List (Int × Ow)) (L1 : LB) (w w' : World) : Prop := ∃ k1, BD w' b M g n most (cO k1) k1 ∧ mapV Ow.f k1 = L1 ∧ Mod (BDb b M g ks) w w' ∧ ∀ i, BDb b M g k1 i → BDb b M g ks i ∨ w.heap.size ≤ i

theorem CodeP.same {w w' : World} {b M g n : Nat} {most : Int} {ks : List (Int × Ow)} {L : LB} (h : BD w b M g n most (cO ks) ks) (he : mapV Ow.f ks = L) (hm : Mod (fun _ => False) w w') : CodeP b M g n most ks L w w' :=
  ⟨ks, h.new hm, he, hm.mono fun _ _ h => h.elim, fun _ h => .inl h⟩

/-- A set of the code's, or none. -/
def SoB (lo : Nat) (w : World) (so : Option Nat) (x : Option (Nat × (Nat → Bool))) : Prop := (so = none ∧ x = none) ∨ ∃ s sg n f, so = some s ∧ x = some (n, f) ∧ BSet w s sg n f ∧ lo ≤ s ∧ lo ≤ sg
theorem lk_abs {ks : List (Int × Ow)} {L : LB} (h : mapV Ow.f ks = L) (p : Int) : lkL L p = (lkL ks p).map Ow.f := by rw [← h, lk_mapV]

theorem bdb_put {b M g : Nat} {ks : List (Int × Ow)} {peer : Int} {x y z : Nat} {f : Nat → Bool} (hx : z ≤ x) (hy : z ≤ y) : ∀ i, BDb b M g (putL ks peer ⟨x, y, f⟩) i → BDb b M g ks i ∨ z ≤ i := by
  intro i hi
  rcases hi with e | e | e | ⟨q, hq, e⟩
  · exact .inl (.inl e)
  · exact .inl (.inr (.inl e))
  · exact .inl (.inr (.inr (.inl e)))
  · rcases mem_putO hq with rfl | hq
    · rcases e with e | e
      · exact .inr (by rw [e]; exact hx)
      · exact .inr (by rw [e]; exact hy)
    · exact .inl (.inr (.inr (.inr ⟨q, hq, e⟩)))
theorem cO_rng {ks : List (Int × Ow)} (h : ks.length ≤ 64) : ∀ k, -900 ≤ cO ks k ∧ cO ks k ≤ 900 := fun k => by have := cO_bd ks k; omega

/-- The code's Set, whole. -/
theorem codeSet (peer : Int) (so : Option Nat) (x : Option (Nat × (Nat → Bool))) (b M g n : Nat) (most : Int) (ks : List (Int × Ow)) (L : LB) (w : World) (h : BD w b M g n most (cO ks) ks) (he : mapV Ow.f ks = L) (hT : TabW w) (hl : ks.length ≤ 64) (hn : n ≤ 1024) (hI : I64 peer) {lo : Nat} (hs : SoB lo w so x) (hlo : ∀ i, BDb b M g ks i → i < lo) :
    Calls Tryd.prog 17 #[.pointer (some ⟨b, 0, none⟩), .int .i64 peer, .pointer (so.map fun s => ⟨s, 0, none⟩)] w fun e w' => e = .returned (.int .i64 (setA n most L peer x).1) ∧ CodeP b M g n most ks (setA n most L peer x).2 w w' := by
  have hbad : (¬ (1 ≤ peer ∧ peer ≤ 65536) ∨ so = none ∨ ∃ s sg n' f, so = some s ∧ BSet w s sg n' f ∧ n' ≠ n) → setA n most L peer x = (1, L) → Calls Tryd.prog 17 #[.pointer (some ⟨b, 0, none⟩), .int .i64 peer, .pointer (so.map fun s => ⟨s, 0, none⟩)] w (fun e w' => e = .returned (.int .i64 (setA n most L peer x).1) ∧ CodeP b M g n most ks (setA n most L peer x).2 w w') := fun h1 h2 => by
    rw [h2]
    exact (rareSetBad peer so b M g n most (cO ks) ks w h hI h1).mono (by rintro e w1 ⟨rfl, m1⟩; exact ⟨rfl, CodeP.same h he m1⟩)
  rcases hs with ⟨rfl, rfl⟩ | ⟨s, sg, m, f, rfl, rfl, hb, l1, l2⟩
  · exact hbad (.inr (.inl rfl)) rfl
  · by_cases hp : 1 ≤ peer ∧ peer ≤ 65536
    · by_cases hmn : m = n
      · subst hmn
        have hap : ApartO b M g ks s sg := fun i hi => by have := hlo i hi; omega
        have hlen : L.length = ks.length := by rw [← he, mapV_len]
        have hr := h.rising
        have e0 : setA m most L peer (some (m, f)) = if (lkL L peer).isSome = true ∨ (L.length : Int) < most then (0, putL L peer f) else (3, L) := by unfold setA; dsimp only; rw [if_pos ⟨hp, rfl⟩]
        rw [e0]
        have hput : ∀ x y : Nat, mapV Ow.f (putL ks peer ⟨x, y, f⟩) = putL L peer f := fun x y => by rw [← put_mapV, he]
        cases hk : lkL ks peer with
        | some o =>
          rw [if_pos (.inl (by rw [lk_abs he, hk]; rfl))]
          refine (rareSetKnown peer o s sg b M g m most (cO ks) ks f w h hb hT hap hp (cO_rng hl) hn (by omega) hk).mono ?_
          rintro e w1 ⟨x, y, rfl, b1, m1, hx, hy⟩
          refine ⟨rfl, _, b1.ext fun k _ => ?_, hput x y, m1.mono fun i _ e => e.elim (fun e => .inr (.inl e)) fun e => .inr (.inr (.inl e)), bdb_put hx hy⟩
          rw [cO_put, cnK_all hb.out, cnK_all (h.sets _ (lk_some_mem hk)).out, cO_del k hr (lk_some_mem hk)]
          dsimp only
          split <;> split <;> omega
        | none =>
          have hk' : (lkL L peer).isSome = true → False := by rw [lk_abs he, hk]; simp
          by_cases hroom : (L.length : Int) < most
          · rw [if_pos (.inr hroom)]
            refine (rareSetNew peer s sg b M g m most (cO ks) ks f w h hb hT hap hp (cO_rng hl) hn (by omega) hk (by omega)).mono ?_
            rintro e w1 ⟨x, y, rfl, b1, m1, hx, hy⟩
            refine ⟨rfl, _, b1.ext fun k _ => ?_, hput x y, m1.mono fun i _ e => e.elim (fun e => .inr (.inl e)) fun e => .inr (.inr (.inl e)), bdb_put hx hy⟩
            rw [cO_put, cnK_all hb.out, del_none hk]
            dsimp only
            split <;> omega
          · rw [if_neg (by rintro (e | e); exact hk' e; exact hroom e)]
            refine (rareSetFull peer s sg b M g m most (cO ks) ks f w h hb hp hk (by omega)).mono ?_
            rintro e w1 ⟨rfl, m1⟩
            exact ⟨rfl, CodeP.same h he m1⟩
      · exact hbad (.inr (.inr ⟨s, sg, m, f, rfl, hb, hmn⟩)) (by unfold setA; dsimp only; rw [if_neg (fun e => hmn e.2)])
    · exact hbad (.inl hp) (by unfold setA; dsimp only; rw [if_neg (fun e => hp e.1)])
/-- .. Pick. -/
theorem codePick (peer seed : Int) (so : Option Nat) (x : Option (Nat × (Nat → Bool))) (b M g n : Nat) (most : Int) (ks : List (Int × Ow)) (L : LB) (w : World) (h : BD w b M g n most (cO ks) ks) (he : mapV Ow.f ks = L) (hT : TabW w) (hn : n ≤ 1024) (hI : I64 peer) {lo : Nat} (hs : SoB lo w so x) :
    Calls Tryd.prog 21 #[.pointer (some ⟨b, 0, none⟩), .int .i64 peer, .pointer (so.map fun s => ⟨s, 0, none⟩), .int .u64 seed] w fun e w' => e = .returned (.int .i64 (pickA n L peer x seed)) ∧ Mod (fun _ => False) w w' := by
  have hbad : (lkL ks peer = none ∨ so = none ∨ ∃ s sg n' f, so = some s ∧ BSet w s sg n' f ∧ n' ≠ n) → pickA n L peer x seed = -1 → Calls Tryd.prog 21 #[.pointer (some ⟨b, 0, none⟩), .int .i64 peer, .pointer (so.map fun s => ⟨s, 0, none⟩), .int .u64 seed] w (fun e w' => e = .returned (.int .i64 (pickA n L peer x seed)) ∧ Mod (fun _ => False) w w') := fun h1 h2 => by
    rw [h2]
    exact rarePickNo peer seed so b M g n most (cO ks) ks w h hI h1
  rcases hs with ⟨rfl, rfl⟩ | ⟨s, sg, m, f, rfl, rfl, hb, l1, l2⟩
  · exact hbad (.inr (.inl rfl)) rfl
  · by_cases hmn : m = n
    · subst hmn
      cases hk : lkL ks peer with
      | none => exact hbad (.inl hk) (by unfold pickA; dsimp only; rw [if_pos rfl, lk_abs he, hk]; rfl)
      | some o =>
        have e0 : pickA m L peer (some (m, f)) seed = pickR (cO ks) (fLess o.f f) m seed := by
          have : cO ks = cF L := by funext j; rw [cO_cF, he]
          rw [this]
          unfold pickA; dsimp only; rw [if_pos rfl, lk_abs he, hk]; rfl
        rw [e0]
        exact rarePick peer seed o s sg b M g m most (cO ks) ks f w h hb hT hI hk hn
    · exact hbad (.inr (.inr ⟨s, sg, m, f, rfl, hb, hmn⟩)) (by unfold pickA; dsimp only; rw [if_neg hmn])
end Go.Proofs.YtfopglaagnbacaaDoor
