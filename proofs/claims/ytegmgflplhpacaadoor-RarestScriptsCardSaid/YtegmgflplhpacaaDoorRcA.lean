/- The laws on rarest: both boards, what a step does to what is known, and the code's operations whole; no condition but the table. -/
import Derived.Test.YtegmgflplhpacaaDoorRbF
import Derived.Test.YtegmgflplhpacaaDoorRwU
namespace Go.Proofs.YtegmgflplhpacaaDoor
open Go Go.RowKit

abbrev LB := List (Int × (Nat → Bool))
/-- The document's steps over what is known. -/
def setA (n : Nat) (most : Int) (L : LB) (peer : Int) (x : Option (Nat × (Nat → Bool))) : Int × LB :=
  match x with
  | none => (1, L)
  | some (m, f) => if (1 ≤ peer ∧ peer ≤ 65536) ∧ m = n then (if (lkL L peer).isSome = true ∨ (L.length : Int) < most then (0, putL L peer f) else (3, L)) else (1, L)
def addA (n : Nat) (L : LB) (peer k : Int) : Int × LB :=
  match lkL L peer with
  | none => (4, L)
  | some f => if 0 ≤ k ∧ k < n then (0, putL L peer (fil f k.toNat (k.toNat + 1) true)) else (1, L)
def goneA (L : LB) (peer : Int) : Int × LB := if (lkL L peer).isSome = true then (0, delL L peer) else (4, L)
def pickA (n : Nat) (L : LB) (peer : Int) (x : Option (Nat × (Nat → Bool))) (seed : Int) : Int :=
  match x with
  | none => -1
  | some (m, f) => if m = n then (match lkL L peer with | none => -1 | some o => pickR (cF L) (fLess o f) n seed) else -1
structure OkB (most : Int) (L : LB) : Prop where
  rise : Rising L
  len : (L.length : Int) ≤ most
  i64 : ∀ q ∈ L, I64 q.1
theorem len_put_known {α : Type} {L : List (Int × α)} (hr : Rising L) {p : Int} (h : (lkL L p).isSome = true) (v : α) : (putL L p v).length = L.length := by
  obtain ⟨o, ho⟩ := Option.isSome_iff_exists.1 h
  obtain ⟨i, hi⟩ := List.mem_iff_getElem?.1 (lk_some_mem ho)
  rw [put_at hr hi, List.length_set]
theorem OkB.set {n : Nat} {most : Int} {L : LB} (h : OkB most L) (peer : Int) (x : Option (Nat × (Nat → Bool))) : OkB most (setA n most L peer x).2 := by
  unfold setA
  cases x with
  | none => exact h
  | some q =>
    obtain ⟨m, f⟩ := q
    dsimp only
    split
    · split
      · rename_i hc
        rename_i hp
        refine ⟨rising_put h.rise _ _, ?_, fun q hq => (mem_putO hq).elim (fun e => by rw [e]; exact i64_of (by dsimp only; omega) (by dsimp only; omega)) (h.i64 q)⟩
        by_cases hk : (lkL L peer).isSome = true
        · rw [len_put_known h.rise hk]; exact h.len
        · have := len_putO L peer f
          have := hc.resolve_left hk
          dsimp only
          omega
      · exact h
    · exact h
theorem OkB.add {n : Nat} {most : Int} {L : LB} (h : OkB most L) (peer k : Int) : OkB most (addA n L peer k).2 := by
  unfold addA
  cases hl : lkL L peer with
  | none => exact h
  | some f =>
    dsimp only
    split
    · refine ⟨rising_put h.rise _ _, ?_, fun q hq => (mem_putO hq).elim (fun e => by rw [e]; exact (show I64 peer from h.i64 (peer, f) (lk_some_mem hl))) (h.i64 q)⟩
      dsimp only
      rw [len_put_known h.rise (by rw [hl]; rfl)]
      exact h.len
    · exact h
theorem OkB.gone {most : Int} {L : LB} (h : OkB most L) (peer : Int) : OkB most (goneA L peer).2 := by
  unfold goneA
  split
  · refine ⟨rising_del h.rise _, ?_, fun q hq => h.i64 q (List.mem_filter.1 hq).1⟩
    have : (delL L peer).length ≤ L.length := List.length_filter_le _ _
    have := h.len
    dsimp only
    omega
  · exact h

theorem BD.ext {w : World} {b M g n : Nat} {most : Int} {c c' : Nat → Int} {ks : List (Int × Ow)} (h : BD w b M g n most c ks) (e : ∀ k, k < n → c' k = c k) : BD w b M g n most c' ks :=
  ⟨h.head, h.map, h.cn.ext e, h.sets, h.ne, h.off, h.two, h.tab⟩
theorem BD.rising {w : World} {b M g n : Nat} {most : Int} {c : Nat → Int} {ks : List (Int × Ow)} (h : BD w b M g n most c ks) : Rising ks := by
  have := h.map.rising
  unfold mpO at this
  exact (rising_mapV (fun o : Ow => Value.pointer (some ⟨o.s, 0, none⟩))).1 this
theorem cO_cF (ks : List (Int × Ow)) (j : Nat) : cO ks j = cF (mapV Ow.f ks) j := by rw [cF_mapV]; rfl

/-- Both boards, that know the same. -/
structure TwoB (w : World) (B0 b M g : Nat) (ks : List (Int × Ow)) (b' base : Nat) (ks' : List (Int × Rp)) (n : Nat) (most : Int) (L : LB) : Prop where
  bd : BD w b M g n most (cO ks) ks
  rd : RD w b' base n most ks'
  e1 : mapV Ow.f ks = L
  e2 : mapV Rp.f ks' = L
  ap : ∀ i, BDb b M g ks i → ¬ RDb w b' ks' i
  low : ∀ i, BDb b M g ks i ∨ RDb w b' ks' i → B0 ≤ i
  ok : OkB most L
  sm : most ≤ 64 ∧ 1 ≤ n ∧ n ≤ 1024
  base : base ≤ w.heap.size
  tab : TabW w ∧ gTab < B0
/-- What a step of the code leaves. -/
def CodeP (b M g n : Nat) (most : Int) (ks : List (Int × Ow)) (L1 : LB) (w w' : World) : Prop := ∃ k1, BD w' b M g n most (cO k1) k1 ∧ mapV Ow.f k1 = L1 ∧ Mod (BDb b M g ks) w w' ∧ ∀ i, BDb b M g k1 i → BDb b M g ks i ∨ w.heap.size ≤ i
/-- .. and one of the reference. -/
def RefP (n b base : Nat) (most : Int) (ks : List (Int × Rp)) (L1 : LB) (w w' : World) : Prop := ∃ k2, StepR n b base most ks k2 w w' ∧ mapV Rp.f k2 = L1
def TwoP (w : World) (B0 b b' n : Nat) (most : Int) (L : LB) : Prop := ∃ M g ks base ks', TwoB w B0 b M g ks b' base ks' n most L

theorem TwoB.B0 {w : World} {B0 b M g : Nat} {ks : List (Int × Ow)} {b' base : Nat} {ks' : List (Int × Rp)} {n : Nat} {most : Int} {L : LB} (h : TwoB w B0 b M g ks b' base ks' n most L) : B0 ≤ b ∧ B0 < w.heap.size := by
  have h1 := h.low b (.inl (.inl rfl))
  have h2 := h.bd.lt (i := b) (.inl rfl)
  omega
theorem TwoB.len {w : World} {B0 b M g : Nat} {ks : List (Int × Ow)} {b' base : Nat} {ks' : List (Int × Rp)} {n : Nat} {most : Int} {L : LB} (h : TwoB w B0 b M g ks b' base ks' n most L) : ks.length ≤ 64 ∧ ks'.length ≤ 64 ∧ ks.length = L.length ∧ ks'.length = L.length := by
  have h1 := congrArg List.length h.e1
  have h2 := congrArg List.length h.e2
  rw [mapV_len] at h1 h2
  have := h.ok.len
  have := h.sm
  omega
theorem TwoB.rise {w : World} {B0 b M g : Nat} {ks : List (Int × Ow)} {b' base : Nat} {ks' : List (Int × Rp)} {n : Nat} {most : Int} {L : LB} (h : TwoB w B0 b M g ks b' base ks' n most L) : Rising ks ∧ Rising ks' :=
  ⟨(rising_mapV Ow.f).1 (by rw [h.e1]; exact h.ok.rise), (rising_mapV Rp.f).1 (by rw [h.e2]; exact h.ok.rise)⟩
theorem TwoB.new {w w' : World} {B0 b M g : Nat} {ks : List (Int × Ow)} {b' base : Nat} {ks' : List (Int × Rp)} {n : Nat} {most : Int} {L : LB} (h : TwoB w B0 b M g ks b' base ks' n most L) (hm : Mod (fun _ => False) w w') : TwoB w' B0 b M g ks b' base ks' n most L := by
  have hr := h.rd.modB hm (fun _ _ h => h)
  refine ⟨h.bd.new hm, hr.1, h.e1, h.e2, fun i hi hj => h.ap i hi (hr.2 i hj), fun i hi => h.low i (hi.imp_right (hr.2 i)), h.ok, h.sm, ?_, h.tab.1.mod hm (fun h => h), h.tab.2⟩
  have := h.base
  have := hm.size
  omega
theorem TwoB.mid {w w1 : World} {B0 b M g : Nat} {ks : List (Int × Ow)} {b' base : Nat} {ks' : List (Int × Rp)} {n : Nat} {most : Int} {L : LB} (h : TwoB w B0 b M g ks b' base ks' n most L) (hm : Mod (BDb b M g ks) w w1) : RD w1 b' base n most ks' ∧ ∀ i, RDb w1 b' ks' i → RDb w b' ks' i :=
  h.rd.modB hm fun i hi hb => h.ap i hb hi
theorem TwoB.both {w w1 w2 : World} {B0 b M g : Nat} {ks : List (Int × Ow)} {b' base : Nat} {ks' : List (Int × Rp)} {n : Nat} {most : Int} {L L1 : LB} (h : TwoB w B0 b M g ks b' base ks' n most L) (hc : CodeP b M g n most ks L1 w w1) (hr : RefP n b' base most ks' L1 w1 w2) (hok : OkB most L1) : TwoP w2 B0 b b' n most L1 ∧ Mod (fun i => B0 ≤ i) w w2 := by
  obtain ⟨k1, hbd, f1, hm, hnew⟩ := hc
  obtain ⟨k2, ⟨hr1, hr2, hr3⟩, f2⟩ := hr
  obtain ⟨r1, r2⟩ := h.mid hm
  have hz1 := hm.size
  have hz2 := hr2.size
  have hB := h.B0
  have ap1 : ∀ i, BDb b M g k1 i → ¬ RDb w1 b' ks' i := fun i hi hj => by
    rcases hnew i hi with e | e
    · exact h.ap i e (r2 i hj)
    · have := h.rd.low (r2 i hj); omega
  refine ⟨⟨M, g, k1, base, k2, hbd.mod hr2 ap1, hr1, f1, f2, fun i hi hj => ?_, fun i hi => ?_, hok, h.sm, by have := h.base; omega, (h.tab.1.mod hm fun e => ?_).mod hr2 fun e => ?_, h.tab.2⟩, (hm.mono fun i _ e => h.low i (.inl e)).trans (hr2.mono fun i _ e => h.low i (.inr (r2 i e)))⟩
  · rcases hr3 i hj with e | e
    · exact ap1 i hi e
    · have := hbd.lt hi; omega
  · rcases hi with hi | hi
    · rcases hnew i hi with e | e
      · exact h.low i (.inl e)
      · omega
    · rcases hr3 i hi with e | e
      · exact h.low i (.inr (r2 i e))
      · omega
  · have := h.low _ (.inl e); have := h.tab.2; omega
  · have := h.low _ (.inr (r2 _ e)); have := h.tab.2; omega
theorem CodeP.same {w w' : World} {b M g n : Nat} {most : Int} {ks : List (Int × Ow)} {L : LB} (h : BD w b M g n most (cO ks) ks) (he : mapV Ow.f ks = L) (hm : Mod (fun _ => False) w w') : CodeP b M g n most ks L w w' :=
  ⟨ks, h.new hm, he, hm.mono fun _ _ h => h.elim, fun _ h => .inl h⟩
theorem RefP.same {w w' : World} {b base n : Nat} {most : Int} {ks : List (Int × Rp)} {L : LB} (h : RD w b base n most ks) (he : mapV Rp.f ks = L) (hm : Mod (fun _ => False) w w') : RefP n b base most ks L w w' :=
  have hr := h.modB hm fun _ _ h => h
  ⟨ks, ⟨hr.1, hm.mono fun _ _ h => h.elim, fun i hi => .inl (hr.2 i hi)⟩, he⟩

/-- A set of the code's, or none. -/
def SoB (lo : Nat) (w : World) (so : Option Nat) (x : Option (Nat × (Nat → Bool))) : Prop := (so = none ∧ x = none) ∨ ∃ s sg n f, so = some s ∧ x = some (n, f) ∧ BSet w s sg n f ∧ lo ≤ s ∧ lo ≤ sg
/-- .. of the reference's. -/
def SoR (lo : Nat) (w : World) (so : Option Nat) (x : Option (Nat × (Nat → Bool))) : Prop := (so = none ∧ x = none) ∨ ∃ s sg n f, so = some s ∧ x = some (n, f) ∧ RSet w s sg n f ∧ lo ≤ s ∧ lo ≤ sg
theorem lk_abs {ks : List (Int × Ow)} {L : LB} (h : mapV Ow.f ks = L) (p : Int) : lkL L p = (lkL ks p).map Ow.f := by rw [← h, lk_mapV]
theorem lk_absR {ks : List (Int × Rp)} {L : LB} (h : mapV Rp.f ks = L) (p : Int) : lkL L p = (lkL ks p).map Rp.f := by rw [← h, lk_mapV]

theorem bdb_put {b M g : Nat} {ks : List (Int × Ow)} {peer : Int} {x y z : Nat} {f : Nat → Bool} (hx : z ≤ x) (hy : z ≤ y) : ∀ i, BDb b M g (putL ks peer ⟨x, y, f⟩) i → BDb b M g ks i ∨ z ≤ i := by
  intro i hi
  rcases hi with e | e | e | ⟨q, hq, e⟩
  · exact .inl (.inl e)
  · exact .inl (.inr (.inl e))
  · exact .inl (.inr (.inr (.inl e)))
  · rcases mem_putO hq with rfl | hq
    · rcases e with e | e
      · exact .inr (by rw [e]; exact hx)
      · exact .inr (by rw [e]; exact hy)
    · exact .inl (.inr (.inr (.inr ⟨q, hq, e⟩)))
theorem cO_rng {ks : List (Int × Ow)} (h : ks.length ≤ 64) : ∀ k, -900 ≤ cO ks k ∧ cO ks k ≤ 900 := fun k => by have := cO_bd ks k; omega

/-- The code's Set, whole. -/
theorem codeSet (peer : Int) (so : Option Nat) (x : Option (Nat × (Nat → Bool))) (b M g n : Nat) (most : Int) (ks : List (Int × Ow)) (L : LB) (w : World) (h : BD w b M g n most (cO ks) ks) (he : mapV Ow.f ks = L) (hT : TabW w) (hl : ks.length ≤ 64) (hn : n ≤ 1024) (hI : I64 peer) {lo : Nat} (hs : SoB lo w so x) (hlo : ∀ i, BDb b M g ks i → i < lo) :
    Calls Tryd.prog 11 #[.pointer (some ⟨b, 0, none⟩), .int .i64 peer, .pointer (so.map fun s => ⟨s, 0, none⟩)] w fun e w' => e = .returned (.int .i64 (setA n most L peer x).1) ∧ CodeP b M g n most ks (setA n most L peer x).2 w w' := by
  have hbad : (¬ (1 ≤ peer ∧ peer ≤ 65536) ∨ so = none ∨ ∃ s sg n' f, so = some s ∧ BSet w s sg n' f ∧ n' ≠ n) → setA n most L peer x = (1, L) → Calls Tryd.prog 11 #[.pointer (some ⟨b, 0, none⟩), .int .i64 peer, .pointer (so.map fun s => ⟨s, 0, none⟩)] w (fun e w' => e = .returned (.int .i64 (setA n most L peer x).1) ∧ CodeP b M g n most ks (setA n most L peer x).2 w w') := fun h1 h2 => by
    rw [h2]
    exact (rareSetBad peer so b M g n most (cO ks) ks w h hI h1).mono (by rintro e w1 ⟨rfl, m1⟩; exact ⟨rfl, CodeP.same h he m1⟩)
  rcases hs with ⟨rfl, rfl⟩ | ⟨s, sg, m, f, rfl, rfl, hb, l1, l2⟩
  · exact hbad (.inr (.inl rfl)) rfl
  · by_cases hp : 1 ≤ peer ∧ peer ≤ 65536
    · by_cases hmn : m = n
      · subst hmn
        have hap : ApartO b M g ks s sg := fun i hi => by have := hlo i hi; omega
        have hlen : L.length = ks.length := by rw [← he, mapV_len]
        have hr := h.rising
        have e0 : setA m most L peer (some (m, f)) = if (lkL L peer).isSome = true ∨ (L.length : Int) < most then (0, putL L peer f) else (3, L) := by unfold setA; dsimp only; rw [if_pos ⟨hp, rfl⟩]
        rw [e0]
        have hput : ∀ x y : Nat, mapV Ow.f (putL ks peer ⟨x, y, f⟩) = putL L peer f := fun x y => by rw [← put_mapV, he]
        cases hk : lkL ks peer with
        | some o =>
          rw [if_pos (.inl (by rw [lk_abs he, hk]; rfl))]
          refine (rareSetKnown peer o s sg b M g m most (cO ks) ks f w h hb hT hap hp (cO_rng hl) hn (by omega) hk).mono ?_
          rintro e w1 ⟨x, y, rfl, b1, m1, hx, hy⟩
          refine ⟨rfl, _, b1.ext fun k _ => ?_, hput x y, m1.mono fun i _ e => e.elim (fun e => .inr (.inl e)) fun e => .inr (.inr (.inl e)), bdb_put hx hy⟩
          rw [cO_put, cnK_all hb.out, cnK_all (h.sets _ (lk_some_mem hk)).out, cO_del k hr (lk_some_mem hk)]
          dsimp only
          split <;> split <;> omega
        | none =>
          have hk' : (lkL L peer).isSome = true → False := by rw [lk_abs he, hk]; simp
          by_cases hroom : (L.length : Int) < most
          · rw [if_pos (.inr hroom)]
            refine (rareSetNew peer s sg b M g m most (cO ks) ks f w h hb hT hap hp (cO_rng hl) hn (by omega) hk (by omega)).mono ?_
            rintro e w1 ⟨x, y, rfl, b1, m1, hx, hy⟩
            refine ⟨rfl, _, b1.ext fun k _ => ?_, hput x y, m1.mono fun i _ e => e.elim (fun e => .inr (.inl e)) fun e => .inr (.inr (.inl e)), bdb_put hx hy⟩
            rw [cO_put, cnK_all hb.out, del_none hk]
            dsimp only
            split <;> omega
          · rw [if_neg (by rintro (e | e); exact hk' e; exact hroom e)]
            refine (rareSetFull peer s sg b M g m most (cO ks) ks f w h hb hp hk (by omega)).mono ?_
            rintro e w1 ⟨rfl, m1⟩
            exact ⟨rfl, CodeP.same h he m1⟩
      · exact hbad (.inr (.inr ⟨s, sg, m, f, rfl, hb, hmn⟩)) (by unfold setA; dsimp only; rw [if_neg (fun e => hmn e.2)])
    · exact hbad (.inl hp) (by unfold setA; dsimp only; rw [if_neg (fun e => hp e.1)])
/-- .. Add. -/
theorem codeAdd (peer k : Int) (b M g n : Nat) (most : Int) (ks : List (Int × Ow)) (L : LB) (w : World) (h : BD w b M g n most (cO ks) ks) (he : mapV Ow.f ks = L) (hl : ks.length ≤ 64) (hI : I64 peer) :
    Calls Tryd.prog 39 #[.pointer (some ⟨b, 0, none⟩), .int .i64 peer, .int .i64 k] w fun e w' => e = .returned (.int .i64 (addA n L peer k).1) ∧ CodeP b M g n most ks (addA n L peer k).2 w w' := by
  unfold addA
  rw [lk_abs he]
  cases hk : lkL ks peer with
  | none =>
    refine (rareAddNo peer k b M g n most (cO ks) ks w h hI hk).mono ?_
    rintro e w1 ⟨rfl, rfl⟩
    exact ⟨rfl, CodeP.same h he (Mod.refl _ _)⟩
  | some o =>
    show Calls _ _ _ _ fun e w' => e = .returned (.int .i64 (if 0 ≤ k ∧ k < n then ((0 : Int), putL L peer (fil o.f k.toNat (k.toNat + 1) true)) else (1, L)).1) ∧ CodeP b M g n most ks (if 0 ≤ k ∧ k < n then ((0 : Int), putL L peer (fil o.f k.toNat (k.toNat + 1) true)) else (1, L)).2 w w'
    have hmem := lk_some_mem hk
    by_cases hkn : 0 ≤ k ∧ k < n
    · rw [if_pos hkn]
      obtain ⟨j, rfl⟩ : ∃ j : Nat, k = (j : Int) := ⟨k.toNat, by omega⟩
      rw [Int.toNat_natCast]
      refine (rareAdd peer j o b M g n most (cO ks) ks w h hI (cO_rng hl) hk (by omega)).mono ?_
      rintro e w1 ⟨rfl, b1, m1⟩
      have hx : ∀ i, i = o.g ∨ i = g → BDb b M g ks i := fun i e => e.elim (fun e => .inr (.inr (.inr ⟨_, hmem, .inr e⟩))) fun e => .inr (.inr (.inl e))
      refine ⟨rfl, _, b1.ext fun i _ => ?_, by rw [← he]; exact (put_mapV Ow.f ks peer ⟨o.s, o.g, fil o.f j (j + 1) true⟩).symm, m1.mono fun i _ e => hx i e, fun i hi => ?_⟩
      · rw [cO_put]
        have := cO_del i h.rising hmem
        unfold addC
        rw [this]
        have hf : fil o.f j (j + 1) true i = if i = j then true else o.f i := by
          unfold fil
          by_cases hij : i = j
          · rw [if_pos (by omega), if_pos hij]
          · rw [if_neg (by omega), if_neg hij]
        dsimp only
        simp only [hf]
        by_cases hij : i = j
        · subst hij
          rw [if_pos rfl, if_pos rfl]
          cases ho : o.f i
          · rw [if_pos ⟨rfl, rfl⟩, if_neg (by decide)]; omega
          · rw [if_neg (by rintro ⟨_, e⟩; exact absurd e (by decide)), if_pos rfl]
        · simp [hij]
      · rcases hi with e | e | e | ⟨q, hq, e⟩
        · exact .inl (.inl e)
        · exact .inl (.inr (.inl e))
        · exact .inl (.inr (.inr (.inl e)))
        · rcases mem_putO hq with rfl | hq
          · exact .inl (.inr (.inr (.inr ⟨_, hmem, e⟩)))
          · exact .inl (.inr (.inr (.inr ⟨q, hq, e⟩)))
    · rw [if_neg hkn]
      refine (rareAddBad peer k o b M g n most (cO ks) ks w h hI hk (by omega)).mono ?_
      rintro e w1 ⟨rfl, rfl⟩
      exact ⟨rfl, CodeP.same h he (Mod.refl _ _)⟩
/-- .. Gone. -/
theorem codeGone (peer : Int) (b M g n : Nat) (most : Int) (ks : List (Int × Ow)) (L : LB) (w : World) (h : BD w b M g n most (cO ks) ks) (he : mapV Ow.f ks = L) (hT : TabW w) (hl : ks.length ≤ 64) (hn : n ≤ 1024) (hI : I64 peer) :
    Calls Tryd.prog 41 #[.pointer (some ⟨b, 0, none⟩), .int .i64 peer] w fun e w' => e = .returned (.int .i64 (goneA L peer).1) ∧ CodeP b M g n most ks (goneA L peer).2 w w' := by
  unfold goneA
  rw [lk_abs he]
  cases hk : lkL ks peer with
  | none =>
    refine (rareGoneNo peer b M g n most (cO ks) ks w h hI hk).mono ?_
    rintro e w1 ⟨rfl, rfl⟩
    exact ⟨rfl, CodeP.same h he (Mod.refl _ _)⟩
  | some o =>
    refine (rareGone peer o b M g n most (cO ks) ks w h hT hI (cO_rng hl) hn hk).mono ?_
    rintro e w1 ⟨rfl, b1, m1⟩
    have hmem := lk_some_mem hk
    refine ⟨rfl, _, b1.ext fun i _ => ?_, by rw [← he]; exact (del_mapV Ow.f ks peer).symm, m1.mono fun i _ e => e.elim (fun e => .inr (.inl e)) fun e => .inr (.inr (.inl e)), fun i hi => ?_⟩
    · rw [cnK_all (h.sets _ hmem).out, cO_del i h.rising hmem]
      dsimp only
      split <;> omega
    · rcases hi with e | e | e | ⟨q, hq, e⟩
      · exact .inl (.inl e)
      · exact .inl (.inr (.inl e))
      · exact .inl (.inr (.inr (.inl e)))
      · exact .inl (.inr (.inr (.inr ⟨q, (List.mem_filter.1 hq).1, e⟩)))
/-- .. Pick. -/
theorem codePick (peer seed : Int) (so : Option Nat) (x : Option (Nat × (Nat → Bool))) (b M g n : Nat) (most : Int) (ks : List (Int × Ow)) (L : LB) (w : World) (h : BD w b M g n most (cO ks) ks) (he : mapV Ow.f ks = L) (hT : TabW w) (hn : n ≤ 1024) (hI : I64 peer) {lo : Nat} (hs : SoB lo w so x) :
    Calls Tryd.prog 12 #[.pointer (some ⟨b, 0, none⟩), .int .i64 peer, .pointer (so.map fun s => ⟨s, 0, none⟩), .int .u64 seed] w fun e w' => e = .returned (.int .i64 (pickA n L peer x seed)) ∧ Mod (fun _ => False) w w' := by
  have hbad : (lkL ks peer = none ∨ so = none ∨ ∃ s sg n' f, so = some s ∧ BSet w s sg n' f ∧ n' ≠ n) → pickA n L peer x seed = -1 → Calls Tryd.prog 12 #[.pointer (some ⟨b, 0, none⟩), .int .i64 peer, .pointer (so.map fun s => ⟨s, 0, none⟩), .int .u64 seed] w (fun e w' => e = .returned (.int .i64 (pickA n L peer x seed)) ∧ Mod (fun _ => False) w w') := fun h1 h2 => by
    rw [h2]
    exact rarePickNo peer seed so b M g n most (cO ks) ks w h hI h1
  rcases hs with ⟨rfl, rfl⟩ | ⟨s, sg, m, f, rfl, rfl, hb, l1, l2⟩
  · exact hbad (.inr (.inl rfl)) rfl
  · by_cases hmn : m = n
    · subst hmn
      cases hk : lkL ks peer with
      | none => exact hbad (.inl hk) (by unfold pickA; dsimp only; rw [if_pos rfl, lk_abs he, hk]; rfl)
      | some o =>
        have e0 : pickA m L peer (some (m, f)) seed = pickR (cO ks) (fLess o.f f) m seed := by
          have : cO ks = cF L := by funext j; rw [cO_cF, he]
          rw [this]
          unfold pickA; dsimp only; rw [if_pos rfl, lk_abs he, hk]; rfl
        rw [e0]
        exact rarePick peer seed o s sg b M g m most (cO ks) ks f w h hb hT hI hk hn
    · exact hbad (.inr (.inr ⟨s, sg, m, f, rfl, hb, hmn⟩)) (by unfold pickA; dsimp only; rw [if_neg hmn])
end Go.Proofs.YtegmgflplhpacaaDoor
