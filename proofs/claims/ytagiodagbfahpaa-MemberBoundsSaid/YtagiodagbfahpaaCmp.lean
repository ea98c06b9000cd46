/- cmp.Or over ints; no condition. -/
import Derived.Test.YtagiodagbfahpaaRows
import Derived.Test.YtagiodagbfahpaaShelf
import Derived.Test.YtagiodagbfahpaaKit
namespace Go.Proofs.Ytagiodagbfahpaa
open Go Go.RowKit

def orI (l : List Int) : Int := (l.find? fun x => x != 0).getD 0
theorem orI_at : ∀ (l : List Int) (k : Nat) (v : Int), (∀ (j : Nat) (u : Int), j < k → l[j]? = some u → u = 0) → l[k]? = some v → v ≠ 0 → orI l = v
  | [], _, _, _, h, _ => by simp at h
  | x :: t, 0, v, _, h, hv => by
    simp at h
    subst h
    unfold orI
    rw [List.find?_cons_of_pos (by simpa using hv)]
    rfl
  | x :: t, k + 1, v, h0, h, hv => by
    have hx := h0 0 x (by omega) rfl
    have := orI_at t k v (fun j u hj hu => h0 (j + 1) u (by omega) (by simpa using hu)) (by simpa using h) hv
    unfold orI at this ⊢
    rw [List.find?_cons_of_neg (by simp [hx])]
    exact this
theorem orI_none (l : List Int) (h : ∀ (j : Nat) (u : Int), l[j]? = some u → u = 0) : orI l = 0 := by
  unfold orI
  rw [List.find?_eq_none.2]
  · rfl
  · intro x hx
    obtain ⟨j, hj⟩ := List.getElem?_of_mem hx
    simp [h j x hj]

set_option maxHeartbeats 1000000 in
theorem cmpOr (X : Addr) (cap : Nat) (l : List Int) (w : World) (h : ∀ (k : Nat) (v : Int), l[k]? = some v → w.cell? (X.add k) = some (.int .i64 v)) (hlen : l.length ≤ 1000) :
    Calls Try.prog 45 #[.slice (some X) l.length cap] w fun e w' => e = .returned (.int .i64 (orI l)) ∧ w = w' := by
  have H := Lib.hid h
  clear h
  go_enter Try.func45, Try.ntmps45
  go_wp2_with fail
  go_loopw [8] (fun v wr => ∃ k : Nat, v = .int .i64 k ∧ k ≤ l.length ∧ Hid (∀ (j : Nat) (u : Int), j < k → l[j]? = some u → u = 0) ∧ wr = w) (fun v _ => l.length - (intOf v).toNat)
  case atStart => exact ⟨0, rfl, Nat.zero_le _, fun j u h => absurd h (Nat.not_lt_zero _), rfl⟩
  case round =>
    obtain ⟨k, rfl, hk, h0, rfl⟩ := hrel
    by_cases hlt : (k : Int) < l.length
    · obtain ⟨v, hv⟩ : ∃ v, l[k]? = some v := ⟨_, List.getElem?_eq_getElem (by omega)⟩
      have c0 := H.out k v hv
      by_cases e : v = 0
      · have e' : (v == 0) = true := by simpa using e
        have HZ : Hid (∀ (j : Nat) (u : Int), j < k + 1 → l[j]? = some u → u = 0) := by
          intro j u hj hu
          by_cases ej : j = k
          · subst ej
            rw [hv] at hu
            cases hu
            exact e
          · exact h0.out j u (by omega) hu
        subst e
        clear hv e'
        go_wp2_with fail
        exact ⟨⟨k + 1, by go_num, by omega, HZ, by first | trivial | rfl⟩, by simp [intOf]; omega⟩
      · have e' : (v == 0) = false := by simpa using e
        have HO := Lib.hid (orI_at l k v h0.out hv e)
        clear hv
        go_wp2_with fail
        go_ret
        exact ⟨by rw [HO.out]; rfl, rfl⟩
    · have HO := Lib.hid (orI_none l fun j u hu => h0.out j u (by have := (List.getElem?_eq_some_iff.1 hu).1; omega) hu)
      go_wp2_with fail
      go_ret
      exact ⟨by rw [HO.out]; rfl, rfl⟩
end Go.Proofs.Ytagiodagbfahpaa
