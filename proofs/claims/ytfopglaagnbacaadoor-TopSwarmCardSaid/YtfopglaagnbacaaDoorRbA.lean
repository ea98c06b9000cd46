/- The reference of rarest: its board, New, find, Peers, Count; no condition. -/
import Derived.Test.YtfopglaagnbacaaDoorRaG
namespace Go.Proofs.YtfopglaagnbacaaDoor
open Go Go.RowKit

/-- A list whose values are turned. -/
def mapV {α β : Type} (φ : α → β) (ks : List (Int × α)) : List (Int × β) := ks.map fun q => (q.1, φ q.2)
theorem lk_mapV {α β : Type} (φ : α → β) (ks : List (Int × α)) (id : Int) : lkL (mapV φ ks) id = (lkL ks id).map φ := by
  unfold lkL mapV
  rw [List.find?_map]
  show Option.map _ (Option.map _ (ks.find? fun p => p.1 == id)) = _
  cases ks.find? fun p => p.1 == id <;> rfl
theorem del_mapV {α β : Type} (φ : α → β) (ks : List (Int × α)) (id : Int) : delL (mapV φ ks) id = mapV φ (delL ks id) := by
  unfold delL mapV
  rw [List.filter_map]
  rfl
theorem ins_mapV {α β : Type} (φ : α → β) (id : Int) (o : α) : ∀ ks : List (Int × α), insS (id, φ o) (mapV φ ks) = mapV φ (insS (id, o) ks)
  | [] => rfl
  | q :: t => by
    show insS (id, _) ((q.1, _) :: mapV φ t) = mapV φ (insS (id, o) (q :: t))
    unfold insS
    by_cases h : id < q.1
    · rw [if_pos h, if_pos h]; rfl
    · rw [if_neg h, if_neg h, ins_mapV φ id o t]; rfl
theorem put_mapV {α β : Type} (φ : α → β) (ks : List (Int × α)) (id : Int) (o : α) : putL (mapV φ ks) id (φ o) = mapV φ (putL ks id o) := by
  unfold putL
  rw [del_mapV, ins_mapV]
theorem mapV_len {α β : Type} (φ : α → β) (ks : List (Int × α)) : (mapV φ ks).length = ks.length := by simp [mapV]
theorem keys_mapV {α β : Type} (φ : α → β) (ks : List (Int × α)) : keysL (mapV φ ks) = keysL ks := by
  unfold keysL mapV
  rw [List.map_map]
  rfl
theorem rising_mapV {α β : Type} (φ : α → β) {ks : List (Int × α)} : Rising (mapV φ ks) ↔ Rising ks := by
  unfold Rising mapV
  rw [List.pairwise_map]
/-- How many have a piece. -/
def cF (L : List (Int × (Nat → Bool))) (j : Nat) : Int := (L.map fun q => if q.2 j = true then (1 : Int) else 0).sum
theorem cF_mapV {α : Type} (φ : α → Nat → Bool) (ks : List (Int × α)) (j : Nat) : cF (mapV φ ks) j = (ks.map fun q => if φ q.2 j = true then (1 : Int) else 0).sum := by
  unfold cF mapV
  rw [List.map_map]
  rfl
theorem cF_snoc (L : List (Int × (Nat → Bool))) (q : Int × (Nat → Bool)) (j : Nat) : cF (L ++ [q]) j = cF L j + if q.2 j = true then 1 else 0 := by
  unfold cF
  rw [List.map_append, List.sum_append]
  simp
theorem cF_bd : ∀ (L : List (Int × (Nat → Bool))) (j : Nat), 0 ≤ cF L j ∧ cF L j ≤ L.length
  | [], j => by simp [cF]
  | q :: t, j => by
    have := cF_bd t j
    unfold cF at this ⊢
    rw [List.map_cons, List.sum_cons, List.length_cons]
    split <;> omega

end Go.Proofs.YtfopglaagnbacaaDoor
