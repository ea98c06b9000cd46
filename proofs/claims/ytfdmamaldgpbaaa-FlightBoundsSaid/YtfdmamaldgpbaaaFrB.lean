/- The reference of flight: Same, Ask, Done, Drop, Late; no condition. -/
import Derived.Test.YtfdmamaldgpbaaaFrA
namespace Go.Proofs.Ytfdmamaldgpbaaa
open Go Go.RowKit

set_option maxRecDepth 100000 in
set_option maxHeartbeats 1000000 in
theorem refSame (a a' : Option Addr) (cap cap' : Nat) (ks ks' : List (Int × Rq)) (w : World) (h : Els w a 3 ks.length (rqL ks)) (h' : Els w a' 3 ks'.length (rqL ks')) (hlen : ks.length ≤ 100000) (hlen' : ks'.length ≤ 100000) :
    Calls Try.prog 12 #[.slice a ks.length cap, .slice a' ks'.length cap'] w fun e w' => (∃ B : Bool, e = .returned (.bool B) ∧ (ks = ks' → B = true)) ∧ Mod (fun _ => False) w w' := by
  have HE := Lib.hid h
  have HE' := Lib.hid h'
  clear h h'
  by_cases hl : ks.length = ks'.length
  · have hl' : ((ks.length : Int) == (ks'.length : Int)) = true := by simp [hl]
    rw [← hl] at HE' ⊢
    clear hl'
    go_enter Try.func12, Try.ntmps12
    go_wp2_with fail
    go_loopw [5] (fun v wr => ∃ (k : Nat), v = .int .i64 k ∧ k ≤ ks.length ∧ Mod (fun _ => False) w wr) (fun v _ => ks.length - (intOf v).toNat)
    case atStart => exact ⟨0, rfl, Nat.zero_le _, Mod.refl _ _⟩
    case round =>
      obtain ⟨k, rfl, hk, hm⟩ := hrel
      by_cases hlt : (k : Int) < ks.length
      · obtain ⟨⟨x, r⟩, hkr⟩ : ∃ q, ks[k]? = some q := ⟨_, List.getElem?_eq_getElem (by omega)⟩
        obtain ⟨⟨x', r'⟩, hkr'⟩ : ∃ q, ks'[k]? = some q := ⟨_, List.getElem?_eq_getElem (by omega)⟩
        obtain ⟨X, rfl, p0, p1, p2⟩ := rqEl (HE.out.new hm) (Nat.le_refl _) hkr
        obtain ⟨Y, rfl, q0, q1, q2⟩ := rqEl (HE'.out.new hm) (Nat.le_of_eq hl.symm) hkr'
        by_cases e : (x, r) = (x', r')
        · cases e
          clear hkr hkr'
          have hl3 : Hid (ks.length = ks'.length) := hl
          clear hl
          go_wp2_with fail
          go_quiet (fail)
          go_wp2_with fail
          exact ⟨⟨k + 1, by go_num, by omega, hm.drewN _⟩, by simp [intOf]; omega⟩
        · have HN : Hid (ks ≠ ks') := by
            intro hh
            subst hh
            rw [hkr] at hkr'
            exact e (Option.some.inj hkr')
          have hl3 : Hid (ks.length = ks'.length) := hl
          clear hkr hkr' hl
          by_cases e1 : r.p = r'.p
          · by_cases e2 : x = x'
            · have e3 : ¬ r.t = r'.t := fun h => e (rq_inj e1 e2 h)
              clear e
              go_wp2_with fail
              go_quiet (fail)
              go_wp2_with fail
              go_ret
              exact ⟨⟨false, rfl, fun e => absurd e HN.out⟩, hm.drewN _⟩
            · clear e
              go_wp2_with fail
              go_quiet (fail)
              go_wp2_with fail
              go_ret
              exact ⟨⟨false, rfl, fun e => absurd e HN.out⟩, hm.drewN _⟩
          · clear e
            go_wp2_with fail
            go_quiet (fail)
            go_wp2_with fail
            go_ret
            exact ⟨⟨false, rfl, fun e => absurd e HN.out⟩, hm.drewN _⟩
      · go_wp2_with fail
        go_ret
        exact ⟨.inr rfl, hm⟩
  · have hl' : ((ks.length : Int) == (ks'.length : Int)) = false := by simp; omega
    go_enter Try.func12, Try.ntmps12
    go_wp2_with fail
    go_ret
    exact ⟨⟨false, rfl, fun e => absurd (by rw [e]) hl⟩, Mod.refl _ _⟩
end Go.Proofs.Ytfdmamaldgpbaaa
