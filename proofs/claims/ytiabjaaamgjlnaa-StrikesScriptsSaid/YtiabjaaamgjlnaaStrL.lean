/- awake of the laws on strikes; no condition. -/
import Derived.Test.YtiabjaaamgjlnaaStrB
namespace Go.Proofs.Ytiabjaaamgjlnaa
open Go Go.RowKit

theorem i64_of {k : Int} (h1 : -1000000000000 ≤ k) (h2 : k ≤ 1000000000000) : I64 k := by
  show (Lit.int .i64 k).wf = true
  simp [Lit.wf, IntKind.min, IntKind.max, IntKind.signed, IntKind.bits]; omega
theorem mod_any {S : Nat → Prop} {w w' : World} (h : Mod (fun _ => False) w w') : Mod S w w' := h.mono fun _ _ h => h.elim

set_option maxRecDepth 100000 in
set_option maxHeartbeats 400000 in
theorem awake15 (w : World) :
    Calls Try.prog 8 #[] w fun e w' => e = .returned (.bool true) ∧ Mod (fun _ => False) w w' := by
  go_enter Try.func8, Try.ntmps8
  go_wp2_with fail
  refine (strNew 2 10 5 _ (by decide) (by decide) (by decide) (by decide) (by decide) (by decide)).mono ?_; rintro e w1 ⟨rfl, h1, m1, z1⟩
  go_wp2_with fail
  refine (strStrikeA 7 1 100 0 0 _ _ 2 10 5 [] _ (by decide) (by decide) (by decide) (by decide) (by decide) (by decide) h1 rfl (by decide) (by decide) (by decide) (by decide) (by decide) (by decide) (by decide) ⟨1, 0, 100⟩ rfl (by decide)).mono ?_; rintro e w2 ⟨rfl, h2, m2⟩
  go_wp2_with fail
  refine (strStrikeA 7 2 100 1 100 _ _ 2 10 5 (putL [] 7 ⟨1, 0, 100⟩) _ (by decide) (by decide) (by decide) (by decide) (by decide) (by decide) h2 rfl (by decide) (by decide) (by decide) (by decide) (by decide) (by decide) (by decide) ⟨2, 12, 200⟩ rfl (by decide)).mono ?_; rintro e w3 ⟨rfl, h3, m3⟩
  have b1 : bnd (putL (putL [] 7 ⟨1, 0, 100⟩) 7 ⟨2, 12, 200⟩) 7 11 = true := rfl
  have b2 : bnd (putL (putL [] 7 ⟨1, 0, 100⟩) 7 ⟨2, 12, 200⟩) 7 12 = false := rfl
  have m13 := (m1.new m2 (by intro i hi; omega)).new m3 (by intro i hi; omega)
  clear m1 m2 m3 h1 h2 z1
  go_wp2_with fail
  refine (strBanned _ _ _ _ _ _ _ _ _ (i64_of (by decide) (by decide)) h3).mono ?_; rw [b1]; rintro e w' ⟨rfl, rfl⟩
  go_wp2_with fail
  refine (strBanned _ _ _ _ _ _ _ _ _ (i64_of (by decide) (by decide)) h3).mono ?_; rw [b2]; rintro e w' ⟨rfl, rfl⟩
  go_wp2_with fail
  go_ret
  exact ⟨rfl, m13⟩
end Go.Proofs.Ytiabjaaamgjlnaa
