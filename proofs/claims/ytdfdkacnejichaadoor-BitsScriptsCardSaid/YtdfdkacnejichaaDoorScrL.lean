/- The walk of the statement BitsScripts: the call returns true and turns nothing that was there; no condition but the library's table. -/
import Derived.Test.YtdfdkacnejichaaDoorAlike
import Derived.Test.YtdfdkacnejichaaDoorBitsW
namespace Go.Proofs.YtdfdkacnejichaaDoor
open Go Go.RowKit Go.IntWalk

set_option maxRecDepth 100000 in
set_option maxHeartbeats 2000000 in
theorem bitsScripts_walk (n : Int) (a1 : Option Addr) (len1 cap1 : Nat) (l : List St) (w : World) (hT : TabW w) (_ : (Lit.int .i64 n).wf = true) (hl : IsSteps w a1 len1 l) :
    Calls Tryd.prog 5 #[.int .i64 n, .slice a1 len1 cap1] w fun e w' => e = .returned (.bool true) ∧ Below w.heap.size w w' := by
  refine Calls.mono (R := fun e w' => e = .returned (.bool true) ∧ Mod (fun _ => False) w w') ?_ (fun e w' ⟨h1, h2⟩ => ⟨h1, h2.below (Nat.le_refl _) (fun _ h => h.elim)⟩)
  by_cases hbad : n < 0 ∨ 700 < n
  · have HB := Lib.hid hbad
    clear hbad hl
    go_enter Tryd.func5, Tryd.ntmps5
    go_wp2_with fail
    refine (awake02 _).mono ?_; rintro e w1 ⟨rfl, m1⟩
    go_wp2_with fail
    refine (madeBad _ _ _ HB.out).mono ?_; rintro e w' ⟨rfl, rfl⟩
    go_wp2_with fail
    go_ret
    exact ⟨rfl, m1⟩
  · obtain ⟨n, rfl⟩ : ∃ k : Nat, n = k := ⟨n.toNat, by omega⟩
    have hn : n ≤ 700 := by omega
    have HL := Lib.hid hl
    have HT := Lib.hid hT
    clear hbad hl hT
    go_enter Tryd.func5, Tryd.ntmps5
    go_wp2_with fail
    refine (awake02 _).mono ?_; rintro e w1 ⟨rfl, m1⟩
    go_wp2_with fail
    refine (madeOk n a1 len1 cap1 l _ hn (HL.out.new m1) (HT.out.mod m1 (fun h => h))).mono ?_; rintro e w2 ⟨b, g, b', g', rfl, tw, m2, _, _, _, _⟩
    have TW := Lib.hid tw
    have HT2 := Lib.hid ((HT.out.mod m1 (fun h => h)).mod m2 (fun h => h))
    have m12 := m1.trans m2
    clear tw m1 m2
    go_wp2_with fail
    refine (alikeTwo _ _ _ _ _ _ _ TW.out HT2.out).mono ?_; rintro e w3 ⟨rfl, m3⟩
    go_wp2_with fail
    go_ret
    exact ⟨rfl, m12.trans m3⟩
end Go.Proofs.YtdfdkacnejichaaDoor
