/- The laws on members: Same, awake; no condition. -/
import Derived.Test.YtagiodagbfahpaaMcA
namespace Go.Proofs.Ytagiodagbfahpaa
open Go Go.RowKit

set_option maxRecDepth 100000 in
set_option maxHeartbeats 1000000 in
theorem same12 (a a' : Option Addr) (cap cap' : Nat) (ks ks' : List (Int × Rc)) (w : World) (h : Els w a 4 ks.length (recL ks)) (h' : Els w a' 4 ks'.length (recL ks')) (hlen : ks.length ≤ 100000) (hlen' : ks'.length ≤ 100000) :
    Calls Try.prog 16 #[.slice a ks.length cap, .slice a' ks'.length cap'] w fun e w' => (∃ B : Bool, e = .returned (.bool B) ∧ (ks = ks' → B = true)) ∧ Mod (fun _ => False) w w' := by
  have HE := Lib.hid h
  have HE' := Lib.hid h'
  clear h h'
  by_cases hl : ks.length = ks'.length
  · have hl' : ((ks.length : Int) == (ks'.length : Int)) = true := by simp [hl]
    rw [← hl] at HE' ⊢
    clear hl'
    go_enter Try.func16, Try.ntmps16
    go_wp2_with fail
    go_loopw [5] (fun v wr => ∃ (k : Nat), v = .int .i64 k ∧ k ≤ ks.length ∧ Mod (fun _ => False) w wr) (fun v _ => ks.length - (intOf v).toNat)
    case atStart => exact ⟨0, rfl, Nat.zero_le _, Mod.refl _ _⟩
    case round =>
      obtain ⟨k, rfl, hk, hm⟩ := hrel
      by_cases hlt : (k : Int) < ks.length
      · obtain ⟨⟨x, r⟩, hkr⟩ : ∃ q, ks[k]? = some q := ⟨_, List.getElem?_eq_getElem (by omega)⟩
        obtain ⟨⟨x', r'⟩, hkr'⟩ : ∃ q, ks'[k]? = some q := ⟨_, List.getElem?_eq_getElem (by omega)⟩
        obtain ⟨X, rfl, p0, p1, p2, p3⟩ := recEl (HE.out.new hm) (Nat.le_refl _) hkr
        obtain ⟨Y, rfl, q0, q1, q2, q3⟩ := recEl (HE'.out.new hm) (Nat.le_of_eq hl.symm) hkr'
        by_cases e : (x, r) = (x', r')
        · cases e
          clear hkr hkr'
          have hl3 : Hid (ks.length = ks'.length) := hl
          clear hl
          go_wp2_with fail
          go_quiet (fail)
          go_wp2_with fail
          exact ⟨⟨k + 1, by go_num, by omega, hm.drewN _⟩, by simp [intOf]; omega⟩
        · have HN : Hid (ks ≠ ks') := by
            intro hh
            subst hh
            rw [hkr] at hkr'
            exact e (Option.some.inj hkr')
          have hl3 : Hid (ks.length = ks'.length) := hl
          clear hkr hkr' hl
          obtain ⟨rs, ru, rb⟩ := r
          obtain ⟨rs', ru', rb'⟩ := r'
          dsimp only at *
          by_cases e1 : x = x'
          · by_cases e2 : rs = rs'
            · by_cases e3 : ru = ru'
              · have e4 : ¬ rb = rb' := fun h => e (by rw [e1, e2, e3, h])
                clear e
                go_wp2_with fail
                go_quiet (fail)
                go_wp2_with fail
                go_ret
                exact ⟨⟨false, rfl, fun e => absurd e HN.out⟩, hm.drewN _⟩
              · clear e
                go_wp2_with fail
                go_quiet (fail)
                go_wp2_with fail
                go_ret
                exact ⟨⟨false, rfl, fun e => absurd e HN.out⟩, hm.drewN _⟩
            · clear e
              go_wp2_with fail
              go_quiet (fail)
              go_wp2_with fail
              go_ret
              exact ⟨⟨false, rfl, fun e => absurd e HN.out⟩, hm.drewN _⟩
          · clear e
            go_wp2_with fail
            go_quiet (fail)
            go_wp2_with fail
            go_ret
            exact ⟨⟨false, rfl, fun e => absurd e HN.out⟩, hm.drewN _⟩
      · go_wp2_with fail
        go_ret
        exact ⟨.inr rfl, hm⟩
  · have hl' : ((ks.length : Int) == (ks'.length : Int)) = false := by simp; omega
    go_enter Try.func16, Try.ntmps16
    go_wp2_with fail
    go_ret
    exact ⟨⟨false, rfl, fun e => absurd (by rw [e]) hl⟩, Mod.refl _ _⟩

theorem refSameL (v v' : Value) (base base' : Nat) (ks : List (Int × Rc)) (w : World) (h : w.ownsRow base TMb 4 v ks.length (recL ks)) (h' : w.ownsRow base' TMb 4 v' ks.length (recL ks)) (hlen : ks.length ≤ 100000) :
    Calls Try.prog 16 #[v, v'] w fun e w' => e = .returned (.bool true) ∧ Mod (fun _ => False) w w' := by
  obtain ⟨a, cap, rfl, _, he, _⟩ := h.els
  obtain ⟨a', cap', rfl, _, he', _⟩ := h'.els
  exact (same12 a a' cap cap' ks ks w he he' hlen hlen).mono fun e w' ⟨⟨B, h1, h2⟩, h3⟩ => ⟨by rw [h1, h2 rfl], h3⟩

set_option maxRecDepth 100000 in
set_option maxHeartbeats 1000000 in
theorem awake12 (w : World) :
    Calls Try.prog 10 #[] w fun e w' => e = .returned (.bool true) ∧ Mod (fun _ => False) w w' := by
  go_enter Try.func10, Try.ntmps10
  go_wp2_with fail
  refine (memNew 5 3 _ (by decide)).mono ?_; rintro e w1 ⟨rfl, h1, m1, z1⟩
  have HH := Lib.hid (memHear (7, ⟨0, 1, 0⟩) 2 _ _ _ 3 [] w1 h1 (OkV.nil 3 (by decide)) (by decide))
  unfold rcv at HH
  dsimp only at HH
  rw [show hearB (5, ⟨0, 1, 0⟩) [] (7, ⟨0, 1, 0⟩) 2 = (true, 0) by decide, show hearSelf (5, ⟨0, 1, 0⟩) (7, ⟨0, 1, 0⟩) 2 = (5, ⟨0, 1, 0⟩) by rfl, show hearK (5, ⟨0, 1, 0⟩) 3 [] (7, ⟨0, 1, 0⟩) 2 = [(7, ⟨0, 1, 2⟩)] by rfl] at HH
  go_wp2_with fail
  refine HH.out.mono ?_; rintro e w2 ⟨rfl, h2, m2⟩
  have HO := Lib.hid (memOf 7 _ _ _ 3 _ w2 (i64_of (by decide) (by decide)) h2)
  rw [show idf [(7, (⟨0, 1, 2⟩ : Rc))] 7 = 7 by decide, show rd [(7, (⟨0, 1, 2⟩ : Rc))] 7 = ⟨0, 1, 2⟩ by rfl, show (lkL [(7, (⟨0, 1, 2⟩ : Rc))] 7).isSome = true by decide] at HO
  dsimp only at HO
  have m12 := m1.new m2 (by intro i hi; omega)
  clear h1 m1 z1 h2 m2
  go_wp2_with fail
  refine HO.out.mono ?_; rintro e w3 ⟨rfl, m3⟩
  have m13 := (m12.trans m3).alloc (.cells #[.int .i64 7, .int .i64 0, .int .i64 1, .int .i64 2] TMb)
  go_wp2_with fail
  go_ret
  exact ⟨rfl, m13⟩
end Go.Proofs.Ytagiodagbfahpaa
