/- The walk of the statement StrikesOver: the call returns true and turns nothing that was there; no condition. -/
import Derived.Test.YtiabjaaamgjlnaaStrE
import Derived.Test.YtiabjaaamgjlnaaStrL
namespace Go.Proofs.Ytiabjaaamgjlnaa
open Go Go.RowKit

set_option maxRecDepth 100000 in
set_option maxHeartbeats 4000000 in
theorem strikesOver_walk (ban now : Int) (w : World) (_ : (Lit.int .i64 ban).wf = true) (_ : (Lit.int .i64 now).wf = true) :
    Calls Try.prog 5 #[.int .i64 ban, .int .i64 now] w fun e w' => e = .returned (.bool true) ∧ Below w.heap.size w w' := by
  refine Calls.mono (R := fun e w' => e = .returned (.bool true) ∧ Mod (fun _ => False) w w') ?_ (fun e w' ⟨h1, h2⟩ => ⟨h1, h2.below (Nat.le_refl _) (fun _ h => h.elim)⟩)
  by_cases hok : 1 ≤ ban ∧ ban ≤ 1048576
  · obtain ⟨a3, a4⟩ := hok
    by_cases hin : 0 ≤ now ∧ now ≤ 1073741824
    · obtain ⟨b1, b2⟩ := hin
      obtain ⟨u, hu⟩ : ∃ u, u = now + ban := ⟨_, rfl⟩
      obtain ⟨u1, hu1⟩ : ∃ u1, u1 = now + ban - 1 := ⟨_, rfl⟩
      obtain ⟨ks, hks⟩ : ∃ ks : List (Int × Rc), ks = [(5, ⟨1, u, 9⟩)] := ⟨_, rfl⟩
      have F1 : Hid (ks.filter (isOver u1) = []) := by show _ = _; rw [hks]; simp [isOver]; omega
      have F1' : Hid (ks.filter (fun q => !isOver u1 q) = ks) := by show _ = _; rw [hks]; simp [isOver]; omega
      have F2 : Hid (ks.filter (isOver u) = ks) := by show _ = _; rw [hks]; simp [isOver]; omega
      have F2' : Hid (ks.filter (fun q => !isOver u q) = []) := by show _ = _; rw [hks]; simp [isOver]; omega
      have FB : Hid (bnd ks 5 u1 = true) := by show _ = _; rw [hks]; unfold bnd rd lkL; simp; omega
      have FK : Hid (keysL ks = [5]) := by show _ = _; rw [hks]; rfl
      have FI : Hid (∀ q ∈ ks, I64 q.1) := by
        intro q hq
        rw [hks] at hq
        simp at hq
        subst hq
        exact i64_of (show (-1000000000000 : Int) ≤ 5 by decide) (show (5 : Int) ≤ 1000000000000 by decide)
      have FL : Hid (ks.length = 1) := by show _ = _; rw [hks]; rfl
      have HKS := Lib.hid hks
      have HU := Lib.hid hu
      have HU1 := Lib.hid hu1
      have hw1 : now + ban = u := hu.symm
      have hw2 : u - 1 = u1 := by omega
      have hpos : (decide (0 < u)) = true := by simp; omega
      have HPOS := Lib.hid hpos
      have HR : Hid (0 ≤ u ∧ u ≤ 1099511627776 ∧ 0 ≤ u1 ∧ u1 ≤ 1099511627776) := by show _ ∧ _ ∧ _ ∧ _; omega
      clear hks hu hu1 hpos
      go_enter Try.func5, Try.ntmps5
      go_wp2_with fail
      refine (awake15 _).mono ?_; rintro e w1 ⟨rfl, m1⟩
      go_wp2_with fail
      refine (strNew 1 ban 3 _ (by decide) (by decide) a3 a4 (by decide) (by decide)).mono ?_; rintro e w2 ⟨rfl, h2, m2, z2⟩
      have H2 := Lib.hid h2
      have M2 := Lib.hid (m1.trans m2)
      have hB1 := m1.size
      clear h2 m1 m2
      obtain ⟨B, hB⟩ : ∃ B, B = w1.heap.size := ⟨_, rfl⟩
      rw [← hB] at H2 hB1 ⊢
      clear hB z2
      go_wp2_with fail
      refine (strStrikeA 5 now 9 0 0 _ _ 1 ban 3 [] _ (by decide) (by decide) b1 (by omega) (by decide) (by decide) H2.out rfl (by decide) (by decide) (by decide) (by decide) (by omega) (by omega) (by decide) ⟨1, u, 9⟩ (by rw [HU.out]; rfl) (show ((1 : Nat) : Int) ≤ 3 by decide)).mono ?_
      rw [show decide (0 < (⟨1, u, 9⟩ : Rc).u) = true from HPOS.out, show putL [] 5 (⟨1, u, 9⟩ : Rc) = ks from HKS.out.symm]; rintro e w3 ⟨rfl, h3, m3⟩
      have H3 := Lib.hid h3
      have M3 := Lib.hid (M2.out.new m3 (by intro i hi; omega))
      clear h3 m3
      go_wp2_with fail
      refine (strExpire u1 _ _ 1 ban 3 ks w3 H3.out (by rw [FL.out]; decide) FI.out ⟨HR.out.2.2.1, HR.out.2.2.2⟩).mono ?_
      rw [F1.out, F1'.out]; rintro e w4 ⟨⟨v4, rfl, o4⟩, h4, m4⟩
      obtain ⟨a4', k4, rfl, _, _, _⟩ := o4.els
      have H4 := Lib.hid h4
      have M4 := Lib.hid (M3.out.new m4 (by intro i hi; omega))
      clear h4 m4 o4
      go_wp2_with fail
      refine (strBanned 5 u1 _ _ 1 ban 3 ks w4 (i64_of (by decide) (by decide)) H4.out).mono ?_; rw [FB.out]; rintro e w' ⟨rfl, rfl⟩
      go_wp2_with fail
      refine (strExpire u _ _ 1 ban 3 ks w4 H4.out (by rw [FL.out]; decide) FI.out ⟨HR.out.1, HR.out.2.1⟩).mono ?_
      rw [F2.out, F2'.out, FK.out]; rintro e w5 ⟨⟨v5, rfl, o5⟩, h5, m5⟩
      have H5 := Lib.hid h5
      have M5 := Lib.hid (M4.out.new m5 (by intro i hi; omega))
      rcases o5.2 with ⟨_, h⟩ | ⟨g, cap, cur, rfl, hg, hh, hcap, _, _, htk⟩
      · cases h
      · have hc5 : w5.cell? ⟨g, 0, none⟩ = some (.int .i64 5) := by
          have h1 := (show Blk w5 g cur _ from hh).cell 0
          rw [h1, ← Array.getElem?_toList]
          have h2 := congrArg (fun l => l[0]?) htk
          simpa [List.getElem?_take] using h2
        clear h5 m5 o5 hh htk hg
        go_wp2_with fail
        refine (strWasted 5 _ _ 1 ban 3 [] w5 (i64_of (by decide) (by decide)) H5.out).mono ?_; rw [show (rd [] 5).b = 0 from rfl]; rintro e w' ⟨rfl, rfl⟩
        go_wp2_with fail
        refine (strKnown _ _ 1 ban 3 [] w5 H5.out (by decide)).mono ?_; rintro e w6 ⟨v6, rfl, o6, m6⟩
        obtain ⟨a6, k6, rfl, _, _, _⟩ := o6.els
        clear o6
        go_wp2_with fail
        go_ret
        exact ⟨rfl, M5.out.trans m6⟩
    · have HIN := Lib.hid hin
      clear hin
      go_enter Try.func5, Try.ntmps5
      go_wp2_with fail
      refine (awake15 _).mono ?_; rintro e w1 ⟨rfl, m1⟩
      go_wp2_with fail
      refine (strNew 1 ban 3 _ (by decide) (by decide) a3 a4 (by decide) (by decide)).mono ?_; rintro e w2 ⟨rfl, h2, m2, z2⟩
      have M2 := Lib.hid (m1.trans m2)
      clear h2 m1 m2
      go_wp2_with fail
      all_goals first | (go_ret; exact ⟨rfl, M2.out⟩) | (exfalso; apply HIN.out; omega)
  · go_enter Try.func5, Try.ntmps5
    go_wp2_with fail
    refine (awake15 _).mono ?_; rintro e w1 ⟨rfl, m1⟩
    go_wp2_with fail
    refine (strNewBad 1 ban 3 _ (by omega)).mono ?_; rintro e w' ⟨rfl, rfl⟩
    go_wp2_with fail
    go_ret
    exact ⟨rfl, m1⟩
end Go.Proofs.Ytiabjaaamgjlnaa
