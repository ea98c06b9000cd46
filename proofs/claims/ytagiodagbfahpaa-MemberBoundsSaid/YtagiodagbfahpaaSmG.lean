/- The reference of member: Fail; no condition. -/
import Derived.Test.YtagiodagbfahpaaSmF
namespace Go.Proofs.Ytagiodagbfahpaa
open Go Go.RowKit

theorem recL_set2 (x : Int) (r : Rc) (u b : Int) : ∀ (l : List (Int × Rc)) (k : Nat), l[k]? = some (x, r) → ((recL l).set (k * 4 + 2) (.int .i64 u)).set (k * 4 + 3) (.int .i64 b) = recL (l.set k (x, ⟨r.s, u, b⟩))
  | [], k, h => by simp at h
  | y :: t, 0, h => by
    simp at h
    subst h
    rfl
  | y :: t, k + 1, h => by
    have := recL_set2 x r u b t k (by simpa using h)
    rw [List.set_cons_succ, recL_cons, recL_cons, ← this, show (k + 1) * 4 + 2 = (recC y).length + (k * 4 + 2) by simp [recC]; omega, show (k + 1) * 4 + 3 = (recC y).length + (k * 4 + 3) by simp [recC]; omega, List.set_append_right _ _ (by omega), List.set_append_right _ _ (by omega)]
    simp

set_option maxRecDepth 100000 in
set_option maxHeartbeats 4000000 in
theorem refVFail (id now : Int) (b base : Nat) (S : Int × Rc) (most : Int) (ks : List (Int × Rc)) (w : World) (h : RW w b base S most ks) (hr : Rising ks) (hlen : ks.length ≤ 999) :
    Calls Try.prog 36 #[.pointer (some ⟨b, 0, none⟩), .int .i64 id, .int .i64 now] w fun e w' => e = .returned (.tuple #[.bool (failR ks id now).1, .int .i64 (failR ks id now).2]) ∧ RW w' b base S most (failK ks id now) ∧ Mod (fun i => base ≤ i) w w' := by
  by_cases hn : 0 ≤ now ∧ now ≤ 1099511627776
  · have e1 := in_yes hn
    have HF := Lib.hid (refVFind id b base S most ks w h (by omega))
    obtain ⟨a, cap, _, c3, _, he, hbk, ho, _⟩ := h.at
    have H := Lib.hid h
    have HRI := Lib.hid hr
    obtain ⟨p, hp⟩ : ∃ p, p = failR ks id now := ⟨_, rfl⟩
    obtain ⟨kx, hkx⟩ : ∃ kx, kx = failK ks id now := ⟨_, rfl⟩
    rw [← hp, ← hkx]
    unfold failR at hp
    unfold failK at hkx
    rw [if_pos hn] at hp hkx
    have HP := Lib.hid hp
    have HKX := Lib.hid hkx
    clear hn hp hkx h hr
    go_enter Try.func36, Try.ntmps36
    go_wp2_with fail
    refine (refMoment _ _).mono ?_; rw [e1]; rintro e w' ⟨rfl, rfl⟩
    clear e1
    go_wp2_with fail
    refine HF.out.mono ?_; rintro e w' ⟨⟨v, rfl, hv⟩, rfl⟩
    rcases hv with ⟨rfl, hn⟩ | ⟨i, r, rfl, hi⟩
    · have hp := HP.out
      have hkx := HKX.out
      rw [hn] at hp hkx
      subst hp
      subst hkx
      clear hn
      go_wp2_with fail
      go_ret2
      exact ⟨rfl, H.out, Mod.refl _ _⟩
    · have hl := lk_of_mem HRI.out (List.mem_of_getElem? hi)
      obtain ⟨X, rfl, p0, p1, p2, p3⟩ := recEl he.out (Nat.le_refl _) hi
      have hil2 : i < ks.length := (List.getElem?_eq_some_iff.1 hi).1
      have hil : (i : Int) < ks.length := by omega
      have hi1 : decide ((i : Int) < 0) = false := by simp
      have hp := HP.out
      have hkx := HKX.out
      rw [hl] at hp hkx
      dsimp only at hp hkx
      by_cases hu : r.u = 1
      · have hu' : (r.u == 1) = true := by simpa using hu
        have hu2 : (r.u != 1) = false := by simp [hu]
        rw [hu'] at hp
        rw [if_pos hu, put_at HRI.out hi] at hkx
        rcases ho.out.2 with ⟨h1, h2⟩ | ⟨g, cap', cur, hv, hg, hgh, _⟩
        · cases h1
        · cases hv
          have O1 := (ho.out.stored (i * 4 + 2) (.int .i64 2)).1
          have O2 := (O1.stored (i * 4 + 3) (.int .i64 now)).1
          rw [recL_set2 id r 2 now ks i hi, ← hkx] at O2
          have hm := ((Mod.refl (fun j => base ≤ j) w).setCell (p := ⟨g, i * 4 + 2, none⟩) (.inl hg) (.int .i64 2))
          have hm2 := hm.setCell (p := ⟨g, i * 4 + 3, none⟩) (.inl hg) (.int .i64 now)
          have hlt := H.out.lt
          have hkl : kx.length = ks.length := by rw [hkx]; simp
          have R2 : RW ((w.setCell ⟨g, i * 4 + 2, none⟩ (.int .i64 2)).setCell ⟨g, i * 4 + 3, none⟩ (.int .i64 now)) b base S most kx := ⟨hlt, _, cap, by rw [hkl]; exact hbk.out.mod hm2 (by omega), by rw [hkl]; exact O2⟩
          have f2 : w.frozen? ⟨g, i * 4 + 2, none⟩ = false := ho.out.frozenAt _
          have f3 : (w.setCell ⟨g, i * 4 + 2, none⟩ (.int .i64 2)).frozen? ⟨g, i * 4 + 3, none⟩ = false := O1.frozenAt _
          have k2 : w.cell? ⟨g, i * 4 + 2, none⟩ = some (.int .i64 r.u) := by rw [ho.out.cellAt (i * 4 + 2) (by omega)]; exact recL_get _ i 2 id r hi (by decide)
          have k3 : (w.setCell ⟨g, i * 4 + 2, none⟩ (.int .i64 2)).cell? ⟨g, i * 4 + 3, none⟩ = some (.int .i64 r.b) := by
            rw [O1.cellAt (i * 4 + 3) (by omega), List.getElem?_set_ne (by omega)]; exact recL_get _ i 3 id r hi (by decide)
          have k5 : (w.setCell ⟨g, i * 4 + 2, none⟩ (.int .i64 2)).cell? ⟨b, 5, none⟩ = some (.slice (some ⟨g, 0, none⟩) ks.length cap) := hm.cell c3 (by show ¬ base ≤ b; omega)
          have R3 := Lib.hid R2
          have M3 := Lib.hid hm2
          subst hp
          clear R2 hm hm2 O1 O2 hgh hkx hi hl hu' p0 p1 p3
          go_wp2_with fail
          go_ret2
          exact ⟨rfl, R3.out, M3.out⟩
      · have hu' : (r.u == 1) = false := by simpa using hu
        have hu2 : (r.u != 1) = true := by simp [hu]
        rw [hu'] at hp
        rw [if_neg hu] at hkx
        subst hp
        subst hkx
        clear hi hl hu hu'
        go_wp2_with fail
        go_ret2
        exact ⟨rfl, H.out, Mod.refl _ _⟩
  · have e1 := in_no hn
    have hR : failR ks id now = (false, 1) := by unfold failR; rw [if_neg hn]
    have hK : failK ks id now = ks := by unfold failK; rw [if_neg hn]
    rw [hR, hK]
    have H := Lib.hid h
    clear hn hR hK h hr
    go_enter Try.func36, Try.ntmps36
    go_wp2_with fail
    refine (refMoment _ _).mono ?_; rw [e1]; rintro e w' ⟨rfl, rfl⟩
    clear e1
    go_wp2_with fail
    go_ret2
    exact ⟨rfl, H.out, Mod.refl _ _⟩
end Go.Proofs.Ytagiodagbfahpaa
