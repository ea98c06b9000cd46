/- The laws on rarest: the reference's operations whole; what sets answers; no condition but the table. -/
import Derived.Test.YtegmgflplhpacaaDoorRcA
namespace Go.Proofs.YtegmgflplhpacaaDoor
open Go Go.RowKit

/-- The reference's Set, whole. -/
theorem refSet (peer : Int) (so : Option Nat) (x : Option (Nat × (Nat → Bool))) (b base n : Nat) (most : Int) (ks : List (Int × Rp)) (L : LB) (w : World) (h : RD w b base n most ks) (he : mapV Rp.f ks = L) (hr : Rising ks) (hl : ks.length ≤ 64) (hn : 1 ≤ n ∧ n ≤ 1024) (hbase : base ≤ w.heap.size) {lo : Nat} (hs : SoR lo w so x) :
    Calls Tryd.prog 38 #[.pointer (some ⟨b, 0, none⟩), .int .i64 peer, .pointer (so.map fun s => ⟨s, 0, none⟩)] w fun e w' => e = .returned (.int .i64 (setA n most L peer x).1) ∧ RefP n b base most ks (setA n most L peer x).2 w w' := by
  have hbad : (¬ (1 ≤ peer ∧ peer ≤ 65536) ∨ so = none ∨ ∃ s sg n' f, so = some s ∧ RSet w s sg n' f ∧ n' ≠ n) → setA n most L peer x = (1, L) → Calls Tryd.prog 38 #[.pointer (some ⟨b, 0, none⟩), .int .i64 peer, .pointer (so.map fun s => ⟨s, 0, none⟩)] w (fun e w' => e = .returned (.int .i64 (setA n most L peer x).1) ∧ RefP n b base most ks (setA n most L peer x).2 w w') := fun h1 h2 => by
    rw [h2]
    exact (refRSetBad peer so b base n most ks w h h1).mono (by rintro e w1 ⟨rfl, m1⟩; exact ⟨rfl, RefP.same h he m1⟩)
  rcases hs with ⟨rfl, rfl⟩ | ⟨s, sg, m, f, rfl, rfl, hb, -, -⟩
  · exact hbad (.inr (.inl rfl)) rfl
  · by_cases hp : 1 ≤ peer ∧ peer ≤ 65536
    · by_cases hmn : m = n
      · subst hmn
        have hlen : L.length = ks.length := by rw [← he, mapV_len]
        have e0 : setA m most L peer (some (m, f)) = if (lkL L peer).isSome = true ∨ (L.length : Int) < most then (0, putL L peer f) else (3, L) := by unfold setA; dsimp only; rw [if_pos ⟨hp, rfl⟩]
        rw [e0]
        have hput : ∀ x y : Nat, mapV Rp.f (putL ks peer ⟨x, y, f⟩) = putL L peer f := fun x y => by rw [← put_mapV, he]
        cases hk : lkL ks peer with
        | some o =>
          rw [if_pos (.inl (by rw [lk_absR he, hk]; rfl))]
          obtain ⟨i, hi⟩ := List.mem_iff_getElem?.1 (lk_some_mem hk)
          refine (refRSetKnown peer i o s sg b base m most ks f w h hb (by omega) hr hbase hn hp hi).mono ?_
          rintro e w1 ⟨rfl, x, y, h1⟩
          exact ⟨rfl, _, h1, hput x y⟩
        | none =>
          have hk' : (lkL L peer).isSome = true → False := by rw [lk_absR he, hk]; simp
          by_cases hroom : (L.length : Int) < most
          · rw [if_pos (.inr hroom)]
            refine (refRSetNew peer s sg b base m most ks f w h hb (by omega) hr hbase hn hp hk (by omega)).mono ?_
            rintro e w1 ⟨rfl, x, y, h1⟩
            exact ⟨rfl, _, h1, hput x y⟩
          · rw [if_neg (by rintro (e | e); exact hk' e; exact hroom e)]
            refine (refRSetFull peer s sg b base m most ks f w h hb (by omega) hr hbase hn hp hk (by omega)).mono ?_
            rintro e w1 ⟨rfl, m1⟩
            exact ⟨rfl, RefP.same h he m1⟩
      · exact hbad (.inr (.inr ⟨s, sg, m, f, rfl, hb, hmn⟩)) (by unfold setA; dsimp only; rw [if_neg (fun e => hmn e.2)])
    · exact hbad (.inl hp) (by unfold setA; dsimp only; rw [if_neg (fun e => hp e.1)])
/-- .. Add. -/
theorem refAdd (peer k : Int) (b base n : Nat) (most : Int) (ks : List (Int × Rp)) (L : LB) (w : World) (h : RD w b base n most ks) (he : mapV Rp.f ks = L) (hr : Rising ks) (hl : ks.length ≤ 64) :
    Calls Tryd.prog 40 #[.pointer (some ⟨b, 0, none⟩), .int .i64 peer, .int .i64 k] w fun e w' => e = .returned (.int .i64 (addA n L peer k).1) ∧ RefP n b base most ks (addA n L peer k).2 w w' := by
  unfold addA
  rw [lk_absR he]
  cases hk : lkL ks peer with
  | none =>
    refine (refRAddNo peer k b base n most ks w h (by omega) hr hk).mono ?_
    rintro e w1 ⟨rfl, rfl⟩
    exact ⟨rfl, RefP.same h he (Mod.refl _ _)⟩
  | some o =>
    show Calls _ _ _ _ fun e w' => e = .returned (.int .i64 (if 0 ≤ k ∧ k < n then ((0 : Int), putL L peer (fil o.f k.toNat (k.toNat + 1) true)) else (1, L)).1) ∧ RefP n b base most ks (if 0 ≤ k ∧ k < n then ((0 : Int), putL L peer (fil o.f k.toNat (k.toNat + 1) true)) else (1, L)).2 w w'
    obtain ⟨i, hi⟩ := List.mem_iff_getElem?.1 (lk_some_mem hk)
    by_cases hkn : 0 ≤ k ∧ k < n
    · rw [if_pos hkn]
      obtain ⟨j, rfl⟩ : ∃ j : Nat, k = (j : Int) := ⟨k.toNat, by omega⟩
      rw [Int.toNat_natCast]
      refine (refRAdd peer j i o b base n most ks w h (by omega) hr hi (by omega)).mono ?_
      rintro e w1 ⟨rfl, h1⟩
      exact ⟨rfl, _, h1, by rw [← he]; exact (put_mapV Rp.f ks peer ⟨o.g, o.cap, fil o.f j (j + 1) true⟩).symm⟩
    · rw [if_neg hkn]
      refine (refRAddBad peer k i o b base n most ks w h (by omega) hr hi (by omega)).mono ?_
      rintro e w1 ⟨rfl, rfl⟩
      exact ⟨rfl, RefP.same h he (Mod.refl _ _)⟩
/-- .. Gone. -/
theorem refGone (peer : Int) (b base n : Nat) (most : Int) (ks : List (Int × Rp)) (L : LB) (w : World) (h : RD w b base n most ks) (he : mapV Rp.f ks = L) (hr : Rising ks) (hl : ks.length ≤ 64) (hbase : base ≤ w.heap.size) :
    Calls Tryd.prog 42 #[.pointer (some ⟨b, 0, none⟩), .int .i64 peer] w fun e w' => e = .returned (.int .i64 (goneA L peer).1) ∧ RefP n b base most ks (goneA L peer).2 w w' := by
  unfold goneA
  rw [lk_absR he]
  cases hk : lkL ks peer with
  | none =>
    refine (refRGoneNo peer b base n most ks w h (by omega) hr hk).mono ?_
    rintro e w1 ⟨rfl, rfl⟩
    exact ⟨rfl, RefP.same h he (Mod.refl _ _)⟩
  | some o =>
    obtain ⟨i, hi⟩ := List.mem_iff_getElem?.1 (lk_some_mem hk)
    refine (refRGone peer i o b base n most ks w h (by omega) hr hbase hi).mono ?_
    rintro e w1 ⟨rfl, h1⟩
    exact ⟨rfl, _, h1, by rw [← he]; exact (del_mapV Rp.f ks peer).symm⟩
/-- .. Pick. -/
theorem refPick (peer seed : Int) (so : Option Nat) (x : Option (Nat × (Nat → Bool))) (b base n : Nat) (most : Int) (ks : List (Int × Rp)) (L : LB) (w : World) (h : RD w b base n most ks) (he : mapV Rp.f ks = L) (hr : Rising ks) (hl : ks.length ≤ 64) (hn : n ≤ 1024) {lo : Nat} (hs : SoR lo w so x) :
    Calls Tryd.prog 43 #[.pointer (some ⟨b, 0, none⟩), .int .i64 peer, .pointer (so.map fun s => ⟨s, 0, none⟩), .int .u64 seed] w fun e w' => e = .returned (.int .i64 (pickA n L peer x seed)) ∧ Mod (fun _ => False) w w' := by
  have hbad : (lkL ks peer = none ∨ so = none ∨ ∃ s sg n' f, so = some s ∧ RSet w s sg n' f ∧ n' ≠ n) → pickA n L peer x seed = -1 → Calls Tryd.prog 43 #[.pointer (some ⟨b, 0, none⟩), .int .i64 peer, .pointer (so.map fun s => ⟨s, 0, none⟩), .int .u64 seed] w (fun e w' => e = .returned (.int .i64 (pickA n L peer x seed)) ∧ Mod (fun _ => False) w w') := fun h1 h2 => by
    rw [h2]
    exact refRPickNo peer seed so b base n most ks w h hr (by omega) h1
  rcases hs with ⟨rfl, rfl⟩ | ⟨s, sg, m, f, rfl, rfl, hb, -, -⟩
  · exact hbad (.inr (.inl rfl)) rfl
  · by_cases hmn : m = n
    · subst hmn
      cases hk : lkL ks peer with
      | none => exact hbad (.inl hk) (by unfold pickA; dsimp only; rw [if_pos rfl, lk_absR he, hk]; rfl)
      | some o =>
        have e0 : pickA m L peer (some (m, f)) seed = pickR (cF (absR ks)) (fLess o.f f) m seed := by
          have : absR ks = L := he
          rw [this]
          unfold pickA; dsimp only; rw [if_pos rfl, lk_absR he, hk]; rfl
        rw [e0]
        exact refRPick peer seed o s sg b base m most ks f w h hb hr hl hk hn
    · exact hbad (.inr (.inr ⟨s, sg, m, f, rfl, hb, hmn⟩)) (by unfold pickA; dsimp only; rw [if_neg hmn])
/-- What sets answers. -/
def setsX (n : Int) (bs : List Nat) : Option (Nat × (Nat → Bool)) := if 0 ≤ n ∧ n ≤ 1100 then some (n.toNat, F13 n.toNat bs) else none
def SetsAll (x : Option (Nat × (Nat → Bool))) (w : World) (e : Ending) (w' : World) : Prop :=
  ∃ so ro : Option Nat, e = .returned (.tuple #[.pointer (so.map fun s => ⟨s, 0, none⟩), .pointer (ro.map fun s => ⟨s, 0, none⟩)]) ∧ SoB w.heap.size w' so x ∧ SoR w.heap.size w' ro x ∧ Mod (fun _ => False) w w'
theorem setsAll (n : Int) (a : Option Addr) (len cap : Nat) (bs : List Nat) (w : World) (hs : Sl w (.slice a len cap) 1 len (byts bs)) (hb : ∀ x ∈ bs, x < 256) :
    Calls Tryd.prog 10 #[.int .i64 n, .slice a len cap] w (SetsAll (setsX n bs) w) := by
  unfold setsX
  by_cases hn : 0 ≤ n ∧ n ≤ 1100
  · rw [if_pos hn]
    obtain ⟨k, rfl⟩ : ∃ k : Nat, n = (k : Int) := ⟨n.toNat, by omega⟩
    refine (setsOk k a len cap bs w (by omega) hs hb).mono ?_
    rintro e w1 ⟨s, sg, r, rg, rfl, h1, h2, hm, hl, -⟩
    exact ⟨some s, some r, rfl, .inr ⟨s, sg, k, _, rfl, rfl, h1, hl.1, hl.2.1⟩, .inr ⟨r, rg, k, _, rfl, rfl, h2, hl.2.2.1, hl.2.2.2⟩, hm⟩
  · rw [if_neg hn]
    refine (setsNo n a len cap w (by omega)).mono ?_
    rintro e w1 ⟨rfl, hm⟩
    exact ⟨none, none, rfl, .inl ⟨rfl, rfl⟩, .inl ⟨rfl, rfl⟩, hm⟩
/-- A set stays where the code's board is turned. -/
theorem SoR.mod {lo : Nat} {w w' : World} {so : Option Nat} {x : Option (Nat × (Nat → Bool))} (h : SoR lo w so x) {S : Nat → Prop} (hm : Mod S w w') (hS : ∀ i, S i → i < lo) : SoR lo w' so x := by
  rcases h with h | ⟨s, sg, n, f, e1, e2, hr, l1, l2⟩
  · exact .inl h
  · exact .inr ⟨s, sg, n, f, e1, e2, hr.mod hm (fun e => by have := hS _ e; omega) (fun e => by have := hS _ e; omega), l1, l2⟩
theorem SoB.mod {lo : Nat} {w w' : World} {so : Option Nat} {x : Option (Nat × (Nat → Bool))} (h : SoB lo w so x) {S : Nat → Prop} (hm : Mod S w w') (hS : ∀ i, S i → i < lo) : SoB lo w' so x := by
  rcases h with h | ⟨s, sg, n, f, e1, e2, hr, l1, l2⟩
  · exact .inl h
  · exact .inr ⟨s, sg, n, f, e1, e2, hr.mod hm (fun e => by have := hS _ e; omega) (fun e => by have := hS _ e; omega), l1, l2⟩
end Go.Proofs.YtegmgflplhpacaaDoor
