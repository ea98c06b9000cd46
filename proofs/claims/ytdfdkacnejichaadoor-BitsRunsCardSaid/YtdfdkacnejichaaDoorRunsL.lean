/- The walk of the statement BitsRuns: the call returns true and turns nothing that was there; no condition but the library's table. -/
import Derived.Test.YtdfdkacnejichaaDoorOfRuns
import Derived.Test.YtdfdkacnejichaaDoorBitsW
namespace Go.Proofs.YtdfdkacnejichaaDoor
open Go Go.RowKit Go.IntWalk

set_option maxRecDepth 100000 in
set_option maxHeartbeats 2000000 in
theorem bitsRuns_walk (n : Int) (a1 : Option Addr) (len1 cap1 : Nat) (z1 : List Int) (w : World) (hT : TabW w) (_ : (Lit.int .i64 n).wf = true) (h1 : IsRow .i64 w a1 len1 cap1 z1) :
    Calls Tryd.prog 8 #[.int .i64 n, .slice a1 len1 cap1] w fun e w' => e = .returned (.bool true) ∧ Below w.heap.size w w' := by
  have hs := h1.sl
  have hsl := hs.len
  obtain ⟨rs, hrs⟩ : ∃ rs, rs = z1.take len1 := ⟨_, rfl⟩
  rw [← hrs] at hs hsl
  have hlen : rs.length = len1 := by simpa using hsl
  clear h1 hrs hsl
  refine Calls.mono (R := fun e w' => e = .returned (.bool true) ∧ Mod (fun _ => False) w w') ?_ (fun e w' ⟨h1, h2⟩ => ⟨h1, h2.below (Nat.le_refl _) (fun _ h => h.elim)⟩)
  by_cases hbig : 1000 < len1
  · have h5 : (1000 : Int) < len1 := by omega
    clear hs hlen
    go_enter Tryd.func8, Tryd.ntmps8
    go_wp2_with fail
    refine (awake02 _).mono ?_; rintro e w1 ⟨rfl, m1⟩
    go_wp2_with fail
    go_ret
    exact ⟨rfl, m1⟩
  · have h5 : ¬ (1000 : Int) < len1 := by omega
    have h9 : (rs.length : Int) ≤ 9223372036854775807 := by omega
    by_cases hmid : 5000 < n ∧ n ≤ 65536
    · obtain ⟨h6, h7⟩ := hmid
      clear hs hlen h9
      go_enter Tryd.func8, Tryd.ntmps8
      go_wp2_with fail
      refine (awake02 _).mono ?_; rintro e w1 ⟨rfl, m1⟩
      go_wp2_with fail
      go_ret
      exact ⟨rfl, m1⟩
    · by_cases hbad : n < 0 ∨ 65536 < n
      · have HB := Lib.hid hbad
        clear hs hlen h9
        rcases hbad with hb | hb
        · have h6 : ¬ 5000 < n := by omega
          clear hmid
          go_enter Tryd.func8, Tryd.ntmps8
          go_wp2_with fail
          refine (awake02 _).mono ?_; rintro e w1 ⟨rfl, m1⟩
          go_wp2_with fail
          refine (bitsOfRunsBad _ _ _ HB.out).mono ?_; rintro e w' ⟨rfl, rfl⟩
          go_wp2_with fail
          refine (refOfRunsBad _ _ _ HB.out).mono ?_; rintro e w' ⟨rfl, rfl⟩
          go_wp2_with fail
          go_ret
          exact ⟨rfl, m1⟩
        · have h6 : 5000 < n := by omega
          have h7 : ¬ n ≤ 65536 := by omega
          clear hmid
          go_enter Tryd.func8, Tryd.ntmps8
          go_wp2_with fail
          refine (awake02 _).mono ?_; rintro e w1 ⟨rfl, m1⟩
          go_wp2_with fail
          refine (bitsOfRunsBad _ _ _ HB.out).mono ?_; rintro e w' ⟨rfl, rfl⟩
          go_wp2_with fail
          refine (refOfRunsBad _ _ _ HB.out).mono ?_; rintro e w' ⟨rfl, rfl⟩
          go_wp2_with fail
          go_ret
          exact ⟨rfl, m1⟩
      · obtain ⟨n, rfl⟩ : ∃ k : Nat, n = k := ⟨n.toNat, by omega⟩
        have h6 : ¬ (5000 : Int) < n := by omega
        have hn : n ≤ 65536 := by omega
        subst hlen
        have HS := Lib.hid hs
        have HT := Lib.hid hT
        have hTl := hT.lt
        clear hs hmid hbad hT
        go_enter Tryd.func8, Tryd.ntmps8
        go_wp2_with fail
        refine (awake02 _).mono ?_; rintro e w1 ⟨rfl, m1⟩
        go_wp2_with fail
        refine (bitsOfRuns n hn _ rs _ (HS.out.mod m1 (fun _ _ _ _ h => h)) h9).mono ?_; rintro e w2 ⟨m2, q2⟩
        have m12 := m1.trans m2
        rcases q2 with ⟨hok, b, g, rfl, s2, hb, hg⟩ | ⟨hno, rfl⟩
        · have z2 := s2.lt
          go_wp2_with fail
          refine (refOfRuns n hn _ rs _ (HS.out.mod m12 (fun _ _ _ _ h => h)) h9).mono ?_; rintro e w3 ⟨m3, q3⟩
          rcases q3 with ⟨_, b', g', rfl, r3, hb', hg'⟩ | ⟨hno, _⟩
          · have m13 := m12.trans m3
            have s3 := s2.mod m3 (fun h => h) (fun h => h)
            have zm := m1.size
            have TW := Lib.hid (⟨s3, r3, by omega, by omega, by omega, by omega, by omega⟩ : Two w3 b g b' g' n (sg false rs))
            have HT3 := Lib.hid (HT.out.mod m13 (fun h => h))
            clear s2 s3 r3 m1 m2 m3 m12 z2 zm hb hg hb' hg' hok
            go_wp2_with fail
            refine (alikeTwo _ _ _ _ _ _ _ TW.out HT3.out).mono ?_; rintro e w4 ⟨rfl, m4⟩
            go_wp2_with fail
            go_ret
            exact ⟨rfl, m13.trans m4⟩
          · exact absurd hok hno
        · go_wp2_with fail
          refine (refOfRuns n hn _ rs _ (HS.out.mod m12 (fun _ _ _ _ h => h)) h9).mono ?_; rintro e w3 ⟨m3, q3⟩
          rcases q3 with ⟨hok, _⟩ | ⟨_, rfl⟩
          · exact absurd hok hno
          · have m13 := m12.trans m3
            clear m1 m2 m3 m12 hno
            go_wp2_with fail
            go_ret
            exact ⟨rfl, m13⟩
end Go.Proofs.YtdfdkacnejichaaDoor
