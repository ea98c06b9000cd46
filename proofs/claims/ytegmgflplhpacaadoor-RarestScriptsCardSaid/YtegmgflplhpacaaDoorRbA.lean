/- The reference of rarest: its board, New, find, Peers, Count; no condition. -/
import Derived.Test.YtegmgflplhpacaaDoorRaG
namespace Go.Proofs.YtegmgflplhpacaaDoor
open Go Go.RowKit

/-- A list whose values are turned. -/
def mapV {α β : Type} (φ : α → β) (ks : List (Int × α)) : List (Int × β) := ks.map fun q => (q.1, φ q.2)
theorem lk_mapV {α β : Type} (φ : α → β) (ks : List (Int × α)) (id : Int) : lkL (mapV φ ks) id = (lkL ks id).map φ := by
  unfold lkL mapV
  rw [List.find?_map]
  show Option.map _ (Option.map _ (ks.find? fun p => p.1 == id)) = _
  cases ks.find? fun p => p.1 == id <;> rfl
theorem del_mapV {α β : Type} (φ : α → β) (ks : List (Int × α)) (id : Int) : delL (mapV φ ks) id = mapV φ (delL ks id) := by
  unfold delL mapV
  rw [List.filter_map]
  rfl
theorem ins_mapV {α β : Type} (φ : α → β) (id : Int) (o : α) : ∀ ks : List (Int × α), insS (id, φ o) (mapV φ ks) = mapV φ (insS (id, o) ks)
  | [] => rfl
  | q :: t => by
    show insS (id, _) ((q.1, _) :: mapV φ t) = mapV φ (insS (id, o) (q :: t))
    unfold insS
    by_cases h : id < q.1
    · rw [if_pos h, if_pos h]; rfl
    · rw [if_neg h, if_neg h, ins_mapV φ id o t]; rfl
theorem put_mapV {α β : Type} (φ : α → β) (ks : List (Int × α)) (id : Int) (o : α) : putL (mapV φ ks) id (φ o) = mapV φ (putL ks id o) := by
  unfold putL
  rw [del_mapV, ins_mapV]
theorem mapV_len {α β : Type} (φ : α → β) (ks : List (Int × α)) : (mapV φ ks).length = ks.length := by simp [mapV]
theorem keys_mapV {α β : Type} (φ : α → β) (ks : List (Int × α)) : keysL (mapV φ ks) = keysL ks := by
  unfold keysL mapV
  rw [List.map_map]
  rfl
theorem rising_mapV {α β : Type} (φ : α → β) {ks : List (Int × α)} : Rising (mapV φ ks) ↔ Rising ks := by
  unfold Rising mapV
  rw [List.pairwise_map]
/-- How many have a piece. -/
def cF (L : List (Int × (Nat → Bool))) (j : Nat) : Int := (L.map fun q => if q.2 j = true then (1 : Int) else 0).sum
theorem cF_mapV {α : Type} (φ : α → Nat → Bool) (ks : List (Int × α)) (j : Nat) : cF (mapV φ ks) j = (ks.map fun q => if φ q.2 j = true then (1 : Int) else 0).sum := by
  unfold cF mapV
  rw [List.map_map]
  rfl
theorem cF_snoc (L : List (Int × (Nat → Bool))) (q : Int × (Nat → Bool)) (j : Nat) : cF (L ++ [q]) j = cF L j + if q.2 j = true then 1 else 0 := by
  unfold cF
  rw [List.map_append, List.sum_append]
  simp
theorem cF_bd : ∀ (L : List (Int × (Nat → Bool))) (j : Nat), 0 ≤ cF L j ∧ cF L j ≤ L.length
  | [], j => by simp [cF]
  | q :: t, j => by
    have := cF_bd t j
    unfold cF at this ⊢
    rw [List.map_cons, List.sum_cons, List.length_cons]
    split <;> omega

abbrev TBd : TypeId := 78
abbrev THs : TypeId := 89
abbrev THl : TypeId := 76
/-- What a peer has, with the reference. -/
structure Rp where
  g : Nat
  cap : Nat
  f : Nat → Bool
abbrev hvC (n : Nat) (q : Int × Rp) : List Value := [.int .i64 q.1, .slice (some ⟨q.2.g, 0, none⟩) n q.2.cap]
def hvL (n : Nat) (ks : List (Int × Rp)) : List Value := ks.flatMap (hvC n)
def booL (n : Nat) (f : Nat → Bool) : List Value := (List.range n).map fun k => Value.bool (f k)
theorem hvL_cons (n : Nat) (q : Int × Rp) (t : List (Int × Rp)) : hvL n (q :: t) = hvC n q ++ hvL n t := by simp [hvL]
theorem hvL_get (n : Nat) : ∀ (ks : List (Int × Rp)) (k j : Nat) (q : Int × Rp), ks[k]? = some q → j < 2 → (hvL n ks)[k * 2 + j]? = (hvC n q)[j]?
  | [], _, _, _, h, _ => by simp at h
  | y :: t, 0, j, q, h, hj => by
    simp at h
    subst h
    rw [hvL_cons, List.getElem?_append_left (by simp; omega)]
    simp
  | y :: t, k + 1, j, q, h, hj => by
    rw [hvL_cons, List.getElem?_append_right (by simp; omega)]
    have := hvL_get n t k j q (by simpa using h) hj
    rw [← this]
    congr 1
    simp
    omega
/-- The reference's board at block b; all else lies in blocks from 'base' on. -/
structure RD (w : World) (b base n : Nat) (most : Int) (ks : List (Int × Rp)) : Prop where
  lt : b < base
  run : ∃ a cap, Blk w b #[.int .i64 n, .int .i64 most, .slice a ks.length cap] TBd ∧ w.ownsRow base THs 2 (.slice a ks.length cap) ks.length (hvL n ks) ∧ ∀ q ∈ ks, ∀ X, a = some X → X.block ≠ q.2.g
  sets : ∀ q ∈ ks, w.ownsRow base 4 1 (.slice (some ⟨q.2.g, 0, none⟩) n q.2.cap) n (booL n q.2.f)
  two : ks.Pairwise fun p q => p.2.g ≠ q.2.g
theorem RD.mod {S : Nat → Prop} {w w' : World} {b base n : Nat} {most : Int} {ks : List (Int × Rp)} (h : RD w b base n most ks) (hm : Mod S w w') (hb : ¬ S b) (hB : ∀ i, base ≤ i → ¬ S i) : RD w' b base n most ks := by
  obtain ⟨h1, ⟨a, cap, h2, h3, h4⟩, h5, h6⟩ := h
  exact ⟨h1, ⟨a, cap, h2.mod hm hb, owns_modG h3 hm hB, h4⟩, fun q hq => owns_modG (h5 q hq) hm hB, h6⟩
theorem RD.new {w w' : World} {b base n : Nat} {most : Int} {ks : List (Int × Rp)} (h : RD w b base n most ks) (hm : Mod (fun _ => False) w w') : RD w' b base n most ks := h.mod hm (fun h => h) (fun _ _ h => h)
theorem RD.drewN {w : World} {b base n : Nat} {most : Int} {ks : List (Int × Rp)} (h : RD w b base n most ks) (k : Nat) : RD (w.drewN k) b base n most ks := h.new ((Mod.refl _ w).drewN k)
theorem RD.at {w : World} {b base n : Nat} {most : Int} {ks : List (Int × Rp)} (h : RD w b base n most ks) : ∃ a cap, w.cell? ⟨b, 0, none⟩ = some (.int .i64 n) ∧ w.cell? ⟨b, 1, none⟩ = some (.int .i64 most) ∧ w.cell? ⟨b, 2, none⟩ = some (.slice a ks.length cap) ∧
    Hid (Els w a 2 ks.length (hvL n ks)) ∧ Hid (Blk w b #[.int .i64 n, .int .i64 most, .slice a ks.length cap] TBd) ∧ Hid (w.ownsRow base THs 2 (.slice a ks.length cap) ks.length (hvL n ks)) ∧ ks.length ≤ cap ∧ Hid (∀ q ∈ ks, ∀ X, a = some X → X.block ≠ q.2.g) := by
  obtain ⟨h1, ⟨a, cap, h2, h3, h4⟩, h5, h6⟩ := h
  obtain ⟨a', cap', hv, hc, he, _⟩ := h3.els
  cases hv
  exact ⟨a, cap, h2.cell 0, h2.cell 1, h2.cell 2, he, h2, h3, hc, h4⟩
/-- The two cells of a record. -/
theorem hvEl {w : World} {a : Option Addr} {m n : Nat} {ks : List (Int × Rp)} (h : Els w a 2 m (hvL n ks)) (hn : ks.length ≤ m) {i : Nat} {q : Int × Rp} (hi : ks[i]? = some q) :
    ∃ X, a = some X ∧ w.cell? (X.add (i * 2)) = some (.int .i64 q.1) ∧ w.cell? ⟨(X.add (i * 2)).block, (X.add (i * 2)).off + 1, none⟩ = some (.slice (some ⟨q.2.g, 0, none⟩) n q.2.cap) := by
  have hl := (List.getElem?_eq_some_iff.1 hi).1
  obtain ⟨X, rfl, h1, h2⟩ := h i (by omega)
  exact ⟨X, rfl, h1 _ (hvL_get n ks i 0 q hi (by decide)), h2 1 _ (hvL_get n ks i 1 q hi (by decide)) (by decide)⟩
theorem boo_at {w : World} {base n : Nat} {q : Int × Rp} (h : w.ownsRow base 4 1 (.slice (some ⟨q.2.g, 0, none⟩) n q.2.cap) n (booL n q.2.f)) {k : Nat} (hk : k < n) : w.cell? ⟨q.2.g, k, none⟩ = some (.bool (q.2.f k)) ∧ w.frozen? ⟨q.2.g, k, none⟩ = false := by
  refine ⟨?_, h.frozenAt k⟩
  rw [h.cellAt k (by omega)]
  unfold booL
  rw [List.getElem?_map, List.getElem?_range hk]
  rfl

/-- The blocks of the reference's board. -/
def RDb (w : World) (b : Nat) (ks : List (Int × Rp)) (i : Nat) : Prop := i = b ∨ (∃ X m cap, w.cell? ⟨b, 2, none⟩ = some (.slice (some X) m cap) ∧ i = X.block) ∨ ∃ q ∈ ks, i = q.2.g
theorem owns_keep {S : Nat → Prop} {w w' : World} {base : Nat} {e : TypeId} {size : Nat} {u : Value} {n : Nat} {xs : List Value} (h : w.ownsRow base e size u n xs) (hm : Mod S w w') (hS : ∀ i, u.ownBlock = some i → ¬ S i) : w'.ownsRow base e size u n xs := by
  refine ⟨h.1, ?_⟩
  rcases h.2 with h2 | ⟨g, cap, cur, rfl, h2, h3, h4⟩
  · exact .inl h2
  · exact .inr ⟨g, cap, cur, rfl, h2, hm.heap h3 (hS g rfl), h4⟩
theorem RD.modB {S : Nat → Prop} {w w' : World} {b base n : Nat} {most : Int} {ks : List (Int × Rp)} (h : RD w b base n most ks) (hm : Mod S w w') (hS : ∀ i, RDb w b ks i → ¬ S i) : RD w' b base n most ks ∧ ∀ i, RDb w' b ks i → RDb w b ks i := by
  obtain ⟨h1, ⟨a, cap, h2, h3, h4⟩, h5, h6⟩ := h
  have hc : w.cell? ⟨b, 2, none⟩ = some (.slice a ks.length cap) := h2.cell 2
  have hb := hS b (.inl rfl)
  refine ⟨⟨h1, ⟨a, cap, h2.mod hm hb, owns_keep h3 hm (fun i hi => ?_), h4⟩, fun q hq => owns_keep (h5 q hq) hm (fun i hi => ?_), h6⟩, fun i hi => ?_⟩
  · cases a with
    | none => simp [Value.ownBlock] at hi
    | some X =>
      simp [Value.ownBlock] at hi
      exact hS i (.inr (.inl ⟨X, _, _, hc, hi.symm⟩))
  · simp [Value.ownBlock] at hi
    exact hS i (.inr (.inr ⟨q, hq, hi.symm⟩))
  · rcases hi with e | ⟨X, m, c, hx, e⟩ | e
    · exact .inl e
    · have hc' : w'.cell? ⟨b, 2, none⟩ = some (.slice a ks.length cap) := hm.cell hc hb
      rw [hc'] at hx
      exact .inr (.inl ⟨X, m, c, by rw [hc]; exact hx, e⟩)
    · exact .inr (.inr e)
theorem RD.low {w : World} {b base n : Nat} {most : Int} {ks : List (Int × Rp)} (h : RD w b base n most ks) {i : Nat} (hi : RDb w b ks i) : i < w.heap.size := by
  obtain ⟨h1, ⟨a, cap, h2, h3, h4⟩, h5, h6⟩ := h
  rcases hi with rfl | ⟨X, m, c, hx, rfl⟩ | ⟨q, hq, rfl⟩
  · exact h2.lt
  · have hc : w.cell? ⟨b, 2, none⟩ = some (.slice a ks.length cap) := h2.cell 2
    rw [hc] at hx
    simp only [Option.some.injEq, Value.slice.injEq] at hx
    obtain ⟨rfl, _, _⟩ := hx
    exact (h3.blk X _ _ rfl).2
  · exact ((h5 q hq).lt _ rfl).2
/-- What a step of the reference leaves. -/
def StepR (n b base : Nat) (most : Int) (ks k2 : List (Int × Rp)) (w w' : World) : Prop := RD w' b base n most k2 ∧ Mod (RDb w b ks) w w' ∧ ∀ i, RDb w' b k2 i → RDb w b ks i ∨ w.heap.size ≤ i

set_option maxRecDepth 100000 in
set_option maxHeartbeats 400000 in
theorem refRNew (n : Nat) (most : Int) (w : World) (h : BoardOk n most) :
    Calls Tryd.prog 17 #[.int .i64 n, .int .i64 most] w fun e w' => e = .returned (.tuple #[.pointer (some ⟨w.heap.size, 0, none⟩), .int .i64 0]) ∧ RD w' w.heap.size (w.heap.size + 1) n most [] ∧ Mod (fun _ => False) w w' ∧ w'.heap.size = w.heap.size + 1 := by
  obtain ⟨h1, h2, h3, h4⟩ := h
  have g1 : ¬ (n : Int) < 1 := by omega
  have g2 : ¬ (1024 : Int) < n := by omega
  have g3 : ¬ most < 1 := by omega
  have g4 : ¬ 64 < most := by omega
  go_enter Tryd.func17, Tryd.ntmps17
  go_wp2_with fail
  go_ret2
  exact ⟨rfl, ⟨Nat.lt_succ_self _, ⟨none, 0, Blk.new w _ _, World.ownsRow_nil _ _ _ _, by simp⟩, by simp, List.Pairwise.nil⟩, (Mod.refl _ w).alloc _, by simp⟩
set_option maxRecDepth 100000 in
set_option maxHeartbeats 400000 in
theorem refRNewBad (n most : Int) (w : World) (h : ¬ BoardOk n most) :
    Calls Tryd.prog 17 #[.int .i64 n, .int .i64 most] w fun e w' => e = .returned (.tuple #[.pointer none, .int .i64 1]) ∧ w = w' := by
  have HB := Lib.hid h
  clear h
  go_enter Tryd.func17, Tryd.ntmps17
  go_wp2_with fail
  all_goals first | (go_ret2; exact ⟨rfl, rfl⟩) | (exfalso; apply HB.out; unfold BoardOk; omega)

theorem lk_none_all {α : Type} {ks : List (Int × α)} {p : Int} (h : ∀ (i : Nat) (q : Int × α), ks[i]? = some q → q.1 ≠ p) : lkL ks p = none := by
  unfold lkL
  rw [List.find?_eq_none.2]
  · rfl
  · intro q hq
    obtain ⟨i, hi⟩ := List.getElem?_of_mem hq
    simpa using h i q hi
/-- What find tells. -/
def FindR (ks : List (Int × Rp)) (id v : Int) : Prop := (v = -1 ∧ lkL ks id = none) ∨ ∃ (i : Nat) (r : Rp), v = i ∧ ks[i]? = some (id, r)
set_option maxRecDepth 100000 in
set_option maxHeartbeats 1000000 in
theorem refRFind (id : Int) (b base n : Nat) (most : Int) (ks : List (Int × Rp)) (w : World) (h : RD w b base n most ks) (hlen : ks.length ≤ 1000) :
    Calls Tryd.prog 46 #[.pointer (some ⟨b, 0, none⟩), .int .i64 id] w fun e w' => (∃ v, e = .returned (.int .i64 v) ∧ FindR ks id v) ∧ w = w' := by
  obtain ⟨a, cap, _, _, c2, he, _, _, _, _⟩ := h.at
  clear h
  go_enter Tryd.func46, Tryd.ntmps46
  go_wp2_with fail
  go_loopw [5] (fun v wr => ∃ k : Nat, v = .int .i64 k ∧ k ≤ ks.length ∧ Hid (∀ (j : Nat) (q : Int × Rp), j < k → ks[j]? = some q → q.1 ≠ id) ∧ wr = w) (fun v _ => ks.length - (intOf v).toNat)
  case atStart => exact ⟨0, rfl, Nat.zero_le _, fun j q h => absurd h (Nat.not_lt_zero _), rfl⟩
  case round =>
    obtain ⟨k, rfl, hk, hno, rfl⟩ := hrel
    by_cases hlt : (k : Int) < ks.length
    · obtain ⟨⟨x, r⟩, hkr⟩ : ∃ q, ks[k]? = some q := ⟨_, List.getElem?_eq_getElem (by omega)⟩
      obtain ⟨X, rfl, p0, p1⟩ := hvEl he.out (Nat.le_refl _) hkr
      dsimp only at p0 p1
      by_cases e : x = id
      · have HK := Lib.hid hkr
        have e' : (x == id) = true := by simpa using e
        have HX := Lib.hid e
        clear hkr e
        go_wp2_with fail
        go_ret
        exact ⟨⟨_, rfl, .inr ⟨k, r, rfl, by rw [← HX.out]; exact HK.out⟩⟩, rfl⟩
      · have e' : (x == id) = false := by simpa using e
        have HN : Hid (∀ (j : Nat) (q : Int × Rp), j < k + 1 → ks[j]? = some q → q.1 ≠ id) := by
          intro j q hj hq
          by_cases ej : j = k
          · subst ej
            rw [hkr] at hq
            cases hq
            exact e
          · exact hno.out j q (by omega) hq
        clear hkr e
        go_wp2_with fail
        exact ⟨⟨k + 1, by go_num, by omega, HN, by first | trivial | rfl⟩, by simp [intOf]; omega⟩
    · have hl : lkL ks id = none := lk_none_all fun i q hi => hno.out i q (by have := (List.getElem?_eq_some_iff.1 hi).1; omega) hi
      have HL := Lib.hid hl
      clear hl
      go_wp2_with fail
      go_ret
      exact ⟨⟨_, rfl, .inl ⟨rfl, HL.out⟩⟩, rfl⟩

theorem intL_append (a b : List Int) : intL (a ++ b) = intL a ++ intL b := List.map_append
set_option maxRecDepth 100000 in
set_option maxHeartbeats 1000000 in
theorem refRPeers (b base n : Nat) (most : Int) (ks : List (Int × Rp)) (w : World) (h : RD w b base n most ks) (hlen : ks.length ≤ 1000) :
    Calls Tryd.prog 22 #[.pointer (some ⟨b, 0, none⟩)] w (IntsP (keysL ks) w) := by
  obtain ⟨a, cap, _, _, c2, he, _, _, _, _⟩ := h.at
  clear h
  go_enter Tryd.func22, Tryd.ntmps22
  go_wp2_with fail
  go_loopw [3, 4] (fun v i wr => ∃ k : Nat, i = .int .i64 k ∧ k ≤ ks.length ∧ Hid (wr.ownsRow w.heap.size 3 1 v k (intL (keysL (ks.take k)))) ∧ Mod (fun _ => False) w wr) (fun _ i _ => ks.length - (intOf i).toNat)
  case atStart => exact ⟨0, rfl, Nat.zero_le _, World.ownsRow_nil _ _ _ _, Mod.refl _ _⟩
  case round =>
    obtain ⟨k, rfl, hk, ho1, hm⟩ := hrel
    have k3 := hm.cell c2 (fun h => h)
    by_cases hlt : (k : Int) < ks.length
    · obtain ⟨⟨x, r⟩, hkr⟩ : ∃ q, ks[k]? = some q := ⟨_, List.getElem?_eq_getElem (by omega)⟩
      obtain ⟨X, rfl, p0, p1⟩ := hvEl (he.out.new hm) (Nat.le_refl _) hkr
      dsimp only at p0 p1
      have HT := Lib.hid (show keysL (ks.take (k + 1)) = keysL (ks.take k) ++ [x] by rw [List.take_add_one, hkr]; unfold keysL; rw [List.map_append]; rfl)
      have hkl : k ≤ 1000 := by omega
      clear hkr
      go_wp2_with (at_builtin; refine app1 (base := w.heap.size) rfl (.tmp 14) (.tmp 23) 53 3 1 rfl Tryd.underlying53 infoInt rfl (by decide) _ _ _ _ 1 [.int .i64 x] (by have := hm.size; simp; omega) (ho1.out.alloc _) rfl rfl (sl_new wr #[.int .i64 x] 3) (by simp [Value.oneCell']) (by decide) (by omega) ?_; intro v' w' g1 g2 g3; have G1 := Lib.hid g1; have G2 := Lib.hid (((Mod.refl _ wr).alloc (.cells #[.int .i64 x] 3)).trans g2); clear g1 g2 g3)
      refine ⟨⟨k + 1, by go_num, by omega, ?_, hm.new G2.out (own_ge ho1.out)⟩, by simp [intOf]; omega⟩
      show World.ownsRow _ _ _ _ _ _ _
      rw [HT.out, intL_append]
      exact G1.out
    · have hkn : k = ks.length := by omega
      have h1 := ho1.out
      rw [hkn, List.take_length] at h1
      have O1 := Lib.hid h1
      have HM := Lib.hid hm
      clear h1 ho1 hkn hm
      go_wp2_with fail
      go_ret
      exact ⟨_, rfl, by have := O1.out; simpa [keysL] using this, HM.out⟩

def absR (ks : List (Int × Rp)) : List (Int × (Nat → Bool)) := mapV Rp.f ks
set_option maxRecDepth 100000 in
set_option maxHeartbeats 1000000 in
theorem refRHow (k : Int) (b base n : Nat) (most : Int) (ks : List (Int × Rp)) (w : World) (h : RD w b base n most ks) (hlen : ks.length ≤ 1000) :
    Calls Tryd.prog 24 #[.pointer (some ⟨b, 0, none⟩), .int .i64 k] w fun e w' => e = .returned (.int .i64 (cntR (cF (absR ks)) n k)) ∧ w = w' := by
  obtain ⟨a, cap, c0, _, c2, he, _, _, _, _⟩ := h.at
  have HSS := Lib.hid h.sets
  clear h
  by_cases hk0 : 0 ≤ k ∧ k < n
  · obtain ⟨j, rfl⟩ : ∃ j : Nat, k = (j : Int) := ⟨k.toNat, by omega⟩
    have hjn : (j : Int) < n := hk0.2
    have hj0 : (0 : Int) ≤ (j : Int) := by omega
    have hjn2 : j < n := by omega
    rw [show cntR (cF (absR ks)) n (j : Int) = cF (absR ks) j by unfold cntR; rw [if_pos hk0]; rfl]
    clear hk0
    go_enter Tryd.func24, Tryd.ntmps24
    go_wp2_with fail
    go_loopw [5, 6] (fun v i wr => ∃ m : Nat, i = .int .i64 m ∧ m ≤ ks.length ∧ v = .int .i64 (cF (absR (ks.take m)) j) ∧ wr = w) (fun _ i _ => ks.length - (intOf i).toNat)
    case atStart => exact ⟨0, rfl, Nat.zero_le _, rfl, rfl⟩
    case round =>
      obtain ⟨m, rfl, hm', rfl, rfl⟩ := hrel
      by_cases hlt : (m : Int) < ks.length
      · obtain ⟨⟨x, r⟩, hkr⟩ : ∃ q, ks[m]? = some q := ⟨_, List.getElem?_eq_getElem (by omega)⟩
        obtain ⟨X, rfl, p0, p1⟩ := hvEl he.out (Nat.le_refl _) hkr
        dsimp only at p0 p1
        have hb := (boo_at (HSS.out _ (List.mem_of_getElem? hkr)) hjn2).1
        dsimp only at hb
        have hT : cF (absR (ks.take (m + 1))) j = cF (absR (ks.take m)) j + if r.f j = true then 1 else 0 := by
          rw [List.take_add_one, hkr]
          unfold absR mapV
          rw [List.map_append]
          exact cF_snoc _ _ _
        have hbd := cF_bd (absR (ks.take m)) j
        have hll : (absR (ks.take m)).length ≤ 1000 := by unfold absR; rw [mapV_len]; have : (ks.take m).length ≤ m := List.length_take_le _ _; omega
        obtain ⟨v, hv⟩ : ∃ v, v = cF (absR (ks.take m)) j := ⟨_, rfl⟩
        rw [← hv] at hT hbd ⊢
        have hw : IntKind.i64.wrap (v + 1) = v + 1 := by unfold IntKind.wrap; simp [IntKind.bits, IntKind.signed]; omega
        have HTT := Lib.hid hT
        clear hkr hT hv hbd hll
        cases hrf : r.f j with
        | true =>
          rw [hrf] at hb HTT
          clear hrf
          go_wp2_with fail
          exact ⟨⟨m + 1, by go_num, by omega, by rw [HTT.out]; simp, trivial⟩, by simp [intOf]; omega⟩
        | false =>
          rw [hrf] at hb HTT
          clear hrf
          go_wp2_with fail
          exact ⟨⟨m + 1, by go_num, by omega, by rw [HTT.out]; simp, trivial⟩, by simp [intOf]; omega⟩
      · have hmn : m = ks.length := by omega
        rw [hmn, List.take_length]
        go_wp2_with fail
        go_ret
        exact ⟨rfl, rfl⟩
  · rw [show cntR (cF (absR ks)) n k = 0 by unfold cntR; rw [if_neg hk0]]
    by_cases hk1 : 0 ≤ k
    · have hk2 : ¬ k < n := by omega
      clear hk0
      go_enter Tryd.func24, Tryd.ntmps24
      go_wp2_with fail
      go_loopw [5, 6] (fun v i wr => i = .int .i64 0 ∧ v = .int .i64 0 ∧ wr = w) (fun _ _ _ => 0)
      case atStart => exact ⟨rfl, rfl, rfl⟩
      case round =>
        obtain ⟨rfl, rfl, rfl⟩ := hrel
        by_cases hlt : (0 : Int) < ks.length
        · go_wp2_with fail
          go_ret
          exact ⟨rfl, rfl⟩
        · go_wp2_with fail
          go_ret
          exact ⟨rfl, rfl⟩
    · clear hk0
      go_enter Tryd.func24, Tryd.ntmps24
      go_wp2_with fail
      go_loopw [5, 6] (fun v i wr => i = .int .i64 0 ∧ v = .int .i64 0 ∧ wr = w) (fun _ _ _ => 0)
      case atStart => exact ⟨rfl, rfl, rfl⟩
      case round =>
        obtain ⟨rfl, rfl, rfl⟩ := hrel
        by_cases hlt : (0 : Int) < ks.length
        · go_wp2_with fail
          go_ret
          exact ⟨rfl, rfl⟩
        · go_wp2_with fail
          go_ret
          exact ⟨rfl, rfl⟩
end Go.Proofs.YtegmgflplhpacaaDoor
