/- Plain laws of conn: which pieces Fall asks for; what is on the way, as a map; no condition. -/
import Derived.Test.YtjmfhcliggjdgaaGreatDoorQ7
namespace Go.Proofs.YtjmfhcliggjdgaaGreatDoor
open Go Go.RowKit

theorem OkSc.mono {B0 B1 : Nat} {w : World} {s : Sc} (h : OkSc B0 w s) (hB : B0 ≤ B1) : OkSc B1 w s := ⟨h.sl, h.by8, h.may, fun x m c e h0 => Nat.lt_of_lt_of_le (h.mlow x m c e h0) hB, h.i⟩
theorem hasB_nat (f : Nat → Bool) (m : Nat) : hasB f (m : Int) = f m := by unfold hasB; simp
/-- The pieces that are free, of m from one on. -/
def freeL (F : Nat → Bool) : Nat → Nat → List Nat
  | 0, _ => []
  | m + 1, i => if F i = true then freeL F m (i + 1) else i :: freeL F m (i + 1)
theorem freeL_add (F : Nat → Bool) : ∀ a b i, freeL F (a + b) i = freeL F a i ++ freeL F b (i + a)
  | 0, b, i => by simp [freeL]
  | a + 1, b, i => by
    rw [show a + 1 + b = (a + b) + 1 by omega]
    show (if F i = true then freeL F (a + b) (i + 1) else i :: freeL F (a + b) (i + 1)) = (if F i = true then freeL F a (i + 1) else i :: freeL F a (i + 1)) ++ _
    rw [freeL_add F a b (i + 1), show i + 1 + a = i + (a + 1) by omega]
    split <;> simp
theorem freeL_len (F : Nat → Bool) : ∀ m i, (freeL F m i).length ≤ m
  | 0, _ => Nat.zero_le _
  | m + 1, i => by
    show (if F i = true then freeL F m (i + 1) else i :: freeL F m (i + 1)).length ≤ _
    have := freeL_len F m (i + 1)
    split
    · omega
    · rw [List.length_cons]; omega
theorem freeL_snoc (F : Nat → Bool) (i : Nat) : freeL F (i + 1) 0 = freeL F i 0 ++ (if F i = true then [] else [i]) := by
  rw [freeL_add]
  simp [freeL]
/-- A free piece has its place in the list. -/
theorem freeL_at (F : Nat → Bool) {n i : Nat} (hi : i < n) (hF : F i = false) : (freeL F n 0)[(freeL F i 0).length]? = some i := by
  rw [show n = i + ((n - i - 1) + 1) by omega, freeL_add, List.getElem?_append_right (Nat.le_refl _), Nat.sub_self, Nat.zero_add]
  show (if F i = true then _ else i :: _)[0]? = _
  rw [if_neg (by rw [hF]; decide)]
  rfl
theorem many_put0 {T : LT} {k : Int} (p now : Int) (h : lkL T k = none) (p' : Int) : Fl.many (putL T k ⟨p, now⟩) p' = Fl.many T p' + if p = p' then 1 else 0 := by
  unfold putL
  rw [del_none h, Fl.many_insS]
theorem len_put0 {T : LT} {k : Int} (v : Fl.Rq) (h : lkL T k = none) : (putL T k v).length = T.length + 1 := by
  unfold putL
  rw [del_none h, length_insS]
/-- How much room there is for a peer. -/
def roomN (mo ea p : Int) (T : LT) : Nat := (min (mo - T.length) (ea - Fl.many T p)).toNat
theorem askE_none {mo ea p now : Int} {T : LT} {k : Int} (h : Fl.askE mo ea T p k now = 0) : lkL T k = none := by
  cases hl : lkL T k with
  | none => rfl
  | some o =>
    exfalso
    unfold Fl.askE at h
    rw [hl] at h
    split at h
    · cases h
    · simp at h
theorem askE_iff {mo ea p now k : Int} {T : LT} (hp : 0 ≤ p ∧ p ≤ 65536) (hk : 0 ≤ k ∧ k ≤ 1023) (hq : 0 ≤ now ∧ now ≤ 1099511627776) (hl : lkL T k = none) : Fl.askE mo ea T p k now = 0 ↔ 0 < roomN mo ea p T := by
  unfold Fl.askE roomN
  rw [if_neg (by omega), hl]
  simp only [Option.isSome_none, Bool.false_eq_true, if_false]
  split
  · rename_i h
    constructor
    · intro e; cases e
    · intro e; omega
  · rename_i h
    constructor
    · intro _; omega
    · intro _; rfl
/-- What Fall asks for. -/
theorem fallR_list {mo ea now : Int} {F : Nat → Bool} (hq : 0 ≤ now ∧ now ≤ 1099511627776) : ∀ (m i : Nat) (T l : LT), i + m ≤ 1024 → (∀ j, i ≤ j → j < i + m → F j = false → lkL T (j : Int) = none) →
    (fallR mo ea now F m i T l).2 = l ++ ((freeL F m i).take (roomN mo ea 0 T)).map fun (j : Nat) => ((j : Int), (⟨0, now⟩ : Fl.Rq))
  | 0, _, _, _, _, _ => by simp [fallR, freeL]
  | m + 1, i, T, l, hi, hno => by
    show (if F i = true then fallR mo ea now F m (i + 1) T l else if Fl.askE mo ea T 0 i now = 0 then fallR mo ea now F m (i + 1) (putL T i ⟨0, now⟩) (l ++ [((i : Int), ⟨0, now⟩)]) else (T, l)).2 = l ++ ((if F i = true then freeL F m (i + 1) else i :: freeL F m (i + 1)).take _).map _
    by_cases hF : F i = true
    · rw [if_pos hF, if_pos hF]
      exact fallR_list hq m (i + 1) T l (by omega) (fun j h1 h2 h3 => hno j (by omega) (by omega) h3)
    · rw [if_neg hF, if_neg hF]
      have hF' : F i = false := by simpa using hF
      have hl := hno i (Nat.le_refl _) (by omega) hF'
      have hiff := askE_iff (mo := mo) (ea := ea) (p := 0) (now := now) (k := (i : Int)) (T := T) (by omega) (by omega) hq hl
      by_cases he : Fl.askE mo ea T 0 i now = 0
      · rw [if_pos he]
        have hpos := hiff.1 he
        have hr : roomN mo ea 0 T = roomN mo ea 0 (putL T (i : Int) ⟨0, now⟩) + 1 := by
          unfold roomN at hpos ⊢
          rw [len_put0 _ hl, many_put0 0 now hl, if_pos rfl]
          omega
        rw [fallR_list hq m (i + 1) _ _ (by omega) (fun j h1 h2 h3 => by rw [lk_put, if_neg (by omega)]; exact hno j (by omega) (by omega) h3), hr, List.take_succ_cons, List.map_cons, List.append_assoc]
        rfl
      · rw [if_neg he]
        have h0 : roomN mo ea 0 T = 0 := by
          have := fun h => he (hiff.2 h)
          omega
        rw [h0]
        simp

theorem snoc_ind {α : Type} {P : List α → Prop} (h0 : P []) (hs : ∀ l a, P l → P (l ++ [a])) (l : List α) : P l := by
  have h : P l.reverse.reverse := by
    induction l.reverse with
    | nil => exact h0
    | cons a t ih => rw [List.reverse_cons]; exact hs _ a ih
  rwa [List.reverse_reverse] at h
/-- What is on the way, as a map of truths. -/
def wayL : List Int → List (Int × Value) := fun l => l.foldl (fun m p => putL m p (.bool true)) []
theorem wayL_snoc (l : List Int) (p : Int) : wayL (l ++ [p]) = putL (wayL l) p (.bool true) := by unfold wayL; rw [List.foldl_append]; rfl
theorem lk_way (l : List Int) (k : Int) : lkL (wayL l) k = if k ∈ l then some (.bool true) else none := by
  refine snoc_ind (P := fun l => lkL (wayL l) k = if k ∈ l then some (.bool true) else none) ?_ (fun l p ih => ?_) l
  · simp [wayL, lkL]
  · rw [wayL_snoc, lk_put, ih]
    by_cases e : k = p
    · simp [e]
    · simp [e]
theorem way_len (l : List Int) : l.Nodup → (wayL l).length = l.length := by
  refine snoc_ind (P := fun l => l.Nodup → (wayL l).length = l.length) (fun _ => rfl) (fun l p ih h => ?_) l
  · have h2 := List.nodup_append.1 h
    have hp : ¬ p ∈ l := fun hm => (h2.2.2 p hm p (by simp)) rfl
    rw [wayL_snoc]
    have hl : lkL (wayL l) p = none := by rw [lk_way, if_neg hp]
    unfold putL
    rw [del_none hl, length_insS, ih h2.1, List.length_append]
    rfl
theorem way_le (l : List Int) : (wayL l).length ≤ l.length := by
  refine snoc_ind (P := fun l => (wayL l).length ≤ l.length) (Nat.le_refl _) (fun l p ih => ?_) l
  · rw [wayL_snoc, List.length_append]
    have := len_putO (wayL l) p (Value.bool true)
    simp only [List.length_cons, List.length_nil]
    omega
theorem zeroBool (w : World) : (zeroValue 4).run Tryz.prog w = .ok (.bool false) w := by kernel_rfl
theorem kStep {K R i : Nat} (hK : K ≤ i) (hi : i ≤ 100) (h : K < R) : wrap64 ((K : Int) + 1) = ((K + 1 : Nat) : Int) ∧ min (K + 1) R = K + 1 ∧ min K R = K := by
  unfold wrap64
  omega
theorem dLe {a b : Nat} (h : b < a) : decide (a ≤ b) = false ∧ decide ((a : Int) ≤ (b : Int)) = false ∧ (b : Int) < a ∧ ¬ a ≤ b := by
  refine ⟨?_, ?_, ?_, ?_⟩
  · simp; omega
  · simp; omega
  · omega
  · omega
theorem lk_keys {α : Type} (T : List (Int × α)) (k : Int) : (lkL T k).isSome = decide (k ∈ keysL T) := by
  cases h : lkL T k with
  | none =>
    have := lk_none.1 h
    symm
    simp only [Option.isSome_none, decide_eq_false_iff_not]
    intro hm
    unfold keysL at hm
    obtain ⟨q, hq, e⟩ := List.mem_map.1 hm
    exact this q hq e
  | some v =>
    symm
    simp only [Option.isSome_some, decide_eq_true_eq]
    unfold keysL
    exact List.mem_map.2 ⟨_, lk_some_mem h, rfl⟩
theorem outF_at {n : Nat} {f : Nat → Bool} {T : LT} {i : Nat} (hi : i < n) : outF n f T i = (f i || decide ((i : Int) ∈ keysL T)) := by
  unfold outF
  rw [decide_eq_true hi, Bool.true_and, lk_keys]
theorem outF_none {n : Nat} {f : Nat → Bool} {T : LT} {i : Nat} (hi : i < n) (h : outF n f T i = false) : f i = false ∧ lkL T (i : Int) = none := by
  unfold outF at h
  rw [decide_eq_true hi, Bool.true_and, Bool.or_eq_false_iff] at h
  refine ⟨h.1, ?_⟩
  cases hl : lkL T (i : Int) with
  | none => rfl
  | some o => rw [hl] at h; cases h.2
theorem room_int {mo ea p : Int} {T : LT} (h : Fl.Okk mo ea T) : ((roomN mo ea p T : Nat) : Int) = min (mo - T.length) (ea - (Fl.many T p : Nat)) := by
  unfold roomN
  have h1 := h.len
  have h2 := h.many p
  omega
end Go.Proofs.YtjmfhcliggjdgaaGreatDoor
