/- The reference of package bits: Has, Fill, Put, Next, Count; no condition. -/
import Derived.Test.YtegmgflplhpacaaDoorBitsR
import Derived.Test.YtegmgflplhpacaaDoorBitsN
import Derived.Test.YtegmgflplhpacaaDoorBitsH
namespace Go.Proofs.YtegmgflplhpacaaDoor
open Go Go.RowKit Go.IntWalk




set_option maxHeartbeats 400000 in
theorem refPutBad (b g n : Nat) (f : Nat → Bool) (i : Int) (one : Bool) (w : World) (h : RSet w b g n f) (hbad : i < 0 ∨ n ≤ i) :
    Calls Tryd.prog 31 #[.pointer (some ⟨b, 0, none⟩), .int .i64 i, .bool one] w fun e w' => e = .returned (.int .i64 1) ∧ w = w' := by
  obtain ⟨c, d0⟩ := h.s0
  clear h
  go_enter Tryd.func31, Tryd.ntmps31
  by_cases h1 : i < 0
  · go_wp2
    go_ret
    exact ⟨rfl, rfl⟩
  · have h3 : (n : Int) ≤ i := by omega
    go_wp2
    go_ret
    exact ⟨rfl, rfl⟩

set_option maxHeartbeats 400000 in
theorem refPut (b g n : Nat) (f : Nat → Bool) (i : Nat) (one : Bool) (w : World) (h : RSet w b g n f) (hi : i < n) :
    Calls Tryd.prog 31 #[.pointer (some ⟨b, 0, none⟩), .int .i64 i, .bool one] w fun e w' => e = .returned (.int .i64 0) ∧ RSet w' b g n (fil f i (i + 1) one) ∧ Mod (· = g) w w' := by
  obtain ⟨c, d0⟩ := h.s0
  have hn := h.small
  obtain ⟨d1, d2⟩ := h.at hi
  have h1 : ¬ (i : Int) < 0 := by omega
  have h3 : ¬ (n : Int) ≤ i := by omega
  have hnx : RSet (w.setCell ⟨g, i, none⟩ (.bool one)) b g n (fil f i (i + 1) one) := by
    refine h.put i _ _ ?_ (fun x hx => ?_)
    · unfold fil; rw [if_pos (by omega)]
    · unfold fil; rw [if_neg (by omega)]
  have HNX := Lib.hid hnx
  clear h hnx
  go_enter Tryd.func31, Tryd.ntmps31
  go_wp2_with fail
  go_ret
  exact ⟨rfl, HNX.out, (Mod.refl (· = g) w).setCell (p := ⟨g, i, none⟩) (.inl rfl) _⟩


end Go.Proofs.YtegmgflplhpacaaDoor
