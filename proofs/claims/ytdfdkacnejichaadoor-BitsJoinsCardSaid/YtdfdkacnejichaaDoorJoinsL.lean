/- The walk of the statement BitsJoins: the call returns true and turns nothing that was there; no condition but the library's table. -/
import Derived.Test.YtdfdkacnejichaaDoorRJoin
import Derived.Test.YtdfdkacnejichaaDoorAlike
import Derived.Test.YtdfdkacnejichaaDoorBitsW
namespace Go.Proofs.YtdfdkacnejichaaDoor
open Go Go.RowKit Go.IntWalk

@[go_sem] theorem ixS0 (a b c : Value) (w : World) : (Instr.index 51 (.agg #[a, b, c]) (.int .i64 0)).run Tryd.prog w = .ok a w := by kernel_rfl
@[go_sem] theorem ixS1 (a b c : Value) (w : World) : (Instr.index 51 (.agg #[a, b, c]) (.int .i64 1)).run Tryd.prog w = .ok b w := by kernel_rfl
@[go_sem] theorem ixS2 (a b c : Value) (w : World) : (Instr.index 51 (.agg #[a, b, c]) (.int .i64 2)).run Tryd.prog w = .ok c w := by kernel_rfl
@[go_sem] theorem ixE0 (a b c : Value) (w : World) : (Instr.index 53 (.agg #[a, b, c]) (.int .i64 0)).run Tryd.prog w = .ok a w := by kernel_rfl
@[go_sem] theorem ixE1 (a b c : Value) (w : World) : (Instr.index 53 (.agg #[a, b, c]) (.int .i64 1)).run Tryd.prog w = .ok b w := by kernel_rfl
@[go_sem] theorem ixE2 (a b c : Value) (w : World) : (Instr.index 53 (.agg #[a, b, c]) (.int .i64 2)).run Tryd.prog w = .ok c w := by kernel_rfl
theorem Two.of {w w' : World} {b g b' g' n : Nat} {f : Nat → Bool} {B : Nat} (s : BSet w b g n f) (hm : Mod (fun _ => False) w w') (r : RSet w' b' g' n f) (h1 : w.heap.size ≤ b') (h2 : w.heap.size ≤ g') (hB : gTab < B) (h3 : B ≤ g) (h4 : B ≤ w.heap.size) : Two w' b g b' g' n f := by
  have z := s.lt
  exact ⟨s.mod hm (fun h => h) (fun h => h), r, by omega, by omega, by omega, by omega, by omega⟩

set_option maxRecDepth 100000 in
set_option maxHeartbeats 8000000 in
theorem bitsJoins_walk (n0 n1 : Int) (a1 : Option Addr) (len1 cap1 : Nat) (l1 : List St) (a2 : Option Addr) (len2 cap2 : Nat) (l2 : List St) (w : World) (hT : TabW w) (_ : (Lit.int .i64 n0).wf = true) (_ : (Lit.int .i64 n1).wf = true) (hl1 : IsSteps w a1 len1 l1) (hl2 : IsSteps w a2 len2 l2) :
    Calls Tryd.prog 9 #[.agg #[.int .i64 n0, .int .i64 n1], .slice a1 len1 cap1, .slice a2 len2 cap2] w fun e w' => e = .returned (.bool true) ∧ Below w.heap.size w w' := by
  refine Calls.mono (R := fun e w' => e = .returned (.bool true) ∧ Mod (fun _ => False) w w') ?_ (fun e w' ⟨h1, h2⟩ => ⟨h1, h2.below (Nat.le_refl _) (fun _ h => h.elim)⟩)
  have HL1 := Lib.hid hl1
  have HL2 := Lib.hid hl2
  have HT := Lib.hid hT
  have hTl := hT.lt
  clear hl1 hl2 hT
  by_cases hb0 : n0 < 0 ∨ 700 < n0
  · have HB0 := Lib.hid hb0
    clear hb0
    go_enter Tryd.func9, Tryd.ntmps9
    go_wp2_with fail
    refine (awake02 _).mono ?_; rintro e w1 ⟨rfl, m1⟩
    have hx := (Blk.new w #[.int .i64 n0, .int .i64 n1] 50).mod m1 (fun h => h)
    have c0 := hx.cell 0
    have c1 := hx.cell 1
    have m01 := ((Mod.refl (fun _ => False) w).alloc _).trans m1
    clear hx m1
    go_wp2_with fail
    refine (madeBad _ _ _ HB0.out).mono ?_; rintro e w' ⟨rfl, rfl⟩
    by_cases hb1 : n1 < 0 ∨ 700 < n1
    · have HB1 := Lib.hid hb1
      clear hb1
      go_wp2_with fail
      refine (madeBad _ _ _ HB1.out).mono ?_; rintro e w' ⟨rfl, rfl⟩
      go_wp2_with fail
      go_ret
      exact ⟨rfl, m01⟩
    · obtain ⟨n1, rfl⟩ : ∃ k : Nat, n1 = k := ⟨n1.toNat, by omega⟩
      have hn1 : n1 ≤ 700 := by omega
      clear hb1
      go_wp2_with fail
      refine (madeOk n1 a2 len2 cap2 l2 _ hn1 (HL2.out.new m01) (HT.out.mod m01 (fun h => h))).mono ?_; rintro e w2 ⟨b, g, b', g', rfl, tw, m2, _, _, _, _⟩
      have m02 := m01.trans m2
      clear tw m2 m01 c0 c1
      go_wp2_with fail
      go_ret
      exact ⟨rfl, m02⟩
  · obtain ⟨n, rfl⟩ : ∃ k : Nat, n0 = k := ⟨n0.toNat, by omega⟩
    have hn : n ≤ 700 := by omega
    clear hb0
    go_enter Tryd.func9, Tryd.ntmps9
    go_wp2_with fail
    refine (awake02 _).mono ?_; rintro e w1 ⟨rfl, m1⟩
    have hx := (Blk.new w #[.int .i64 (n : Int), .int .i64 n1] 50).mod m1 (fun h => h)
    have c0 := hx.cell 0
    have m01 := ((Mod.refl (fun _ => False) w).alloc _).trans m1
    clear m1
    go_wp2_with fail
    refine (madeOk n a1 len1 cap1 l1 _ hn (HL1.out.new m01) (HT.out.mod m01 (fun h => h))).mono ?_; rintro e w2 ⟨b, g, b', g', rfl, tw, m2, gb, gg, gb', gg'⟩
    have m02 := m01.trans m2
    have c1 := (hx.mod m2 (fun h => h)).cell 1
    have hsz := m01.size
    have TW2 := Lib.hid tw
    obtain ⟨f, hf⟩ : ∃ f, f = stFs n (l1.take 60) := ⟨_, rfl⟩
    rw [← hf] at TW2
    clear hx m01 m2 tw hf c0
    by_cases hb1 : n1 < 0 ∨ 700 < n1
    · have HB1 := Lib.hid hb1
      clear hb1
      go_wp2_with fail
      refine (madeBad _ _ _ HB1.out).mono ?_; rintro e w' ⟨rfl, rfl⟩
      have BAD : ∀ k, ∀ b2, (none : Option Nat) = some b2 → ∃ g2 n2 f2, BSet (w2.drewN k) b2 g2 n2 f2 ∧ n2 ≠ n := fun _ _ h => by cases h
      have RBAD : ∀ k, ∀ b2, (none : Option Nat) = some b2 → ∃ g2 n2 f2, RSet (w2.drewN k) b2 g2 n2 f2 ∧ n2 ≠ n := fun _ _ h => by cases h
      have HBAD := Lib.hid BAD; have HRBAD := Lib.hid RBAD; clear BAD RBAD
      go_wp2_with fail
      refine (bitsAndBad _ _ _ _ ((none : Option Nat)) _ TW2.out.s (HBAD.out 0)).mono ?_; rintro e w' ⟨rfl, k1, rfl⟩
      go_wp2_with fail
      refine (bitsOrBad _ _ _ _ ((none : Option Nat)) _ (TW2.out.drewN k1).s (HBAD.out k1)).mono ?_; rintro e w' ⟨rfl, k2, rfl⟩
      rw [World.drewN_drewN]
      go_wp2_with fail
      refine (bitsLessBad _ _ _ _ ((none : Option Nat)) _ (TW2.out.drewN (k1 + k2)).s (HBAD.out (k1 + k2))).mono ?_; rintro e w' ⟨rfl, k3, rfl⟩
      rw [World.drewN_drewN]
      go_wp2_with fail
      go_loopw [20] (fun v wr => ∃ k : Nat, v = .int .i64 k ∧ k ≤ 3 ∧ Hid (∃ j, wr = w2.drewN j)) (fun v _ => 3 - (intOf v).toNat)
      case atStart => exact ⟨0, rfl, by decide, _, rfl⟩
      case round =>
        obtain ⟨k, rfl, hk, ⟨j, rfl⟩⟩ := hrel
        rcases (show k = 0 ∨ k = 1 ∨ k = 2 ∨ k = 3 by omega) with rfl | rfl | rfl | rfl
        · go_wp2_with fail
          refine (refJoinBad _ _ _ _ ((none : Option Nat)) _ _ (TW2.out.drewN j).r (HRBAD.out j)).mono ?_; rintro e w' ⟨rfl, k5, rfl⟩
          rw [World.drewN_drewN]
          go_wp2_with fail
          exact ⟨⟨1, rfl, by decide, ⟨_, rfl⟩⟩, by simp [intOf]⟩
        · go_wp2_with fail
          refine (refJoinBad _ _ _ _ ((none : Option Nat)) _ _ (TW2.out.drewN j).r (HRBAD.out j)).mono ?_; rintro e w' ⟨rfl, k5, rfl⟩
          rw [World.drewN_drewN]
          go_wp2_with fail
          exact ⟨⟨2, rfl, by decide, ⟨_, rfl⟩⟩, by simp [intOf]⟩
        · go_wp2_with fail
          refine (refJoinBad _ _ _ _ ((none : Option Nat)) _ _ (TW2.out.drewN j).r (HRBAD.out j)).mono ?_; rintro e w' ⟨rfl, k5, rfl⟩
          rw [World.drewN_drewN]
          go_wp2_with fail
          exact ⟨⟨3, rfl, by decide, ⟨_, rfl⟩⟩, by simp [intOf]⟩
        · go_wp2_with fail
          refine (alikeTwo _ _ _ _ _ _ _ (TW2.out.drewN j) (HT.out.mod (m02.drewN j) (fun h => h))).mono ?_; rintro e w8 ⟨rfl, m8⟩
          go_wp2_with fail
          go_ret
          exact ⟨rfl, (m02.drewN j).trans m8⟩
    · obtain ⟨n1, rfl⟩ : ∃ k : Nat, n1 = k := ⟨n1.toNat, by omega⟩
      have hn1 : n1 ≤ 700 := by omega
      clear hb1
      go_wp2_with fail
      refine (madeOk n1 a2 len2 cap2 l2 _ hn1 (HL2.out.new m02) (HT.out.mod m02 (fun h => h))).mono ?_; rintro e w3 ⟨c, k, c', k', rfl, tv, m3, gc, gk, gc', gk'⟩
      have m03 := m02.trans m3
      have TW3 := Lib.hid (TW2.out.new m3)
      have TV3 := Lib.hid tv
      obtain ⟨f', hf'⟩ : ∃ f, f = stFs n1 (l2.take 60) := ⟨_, rfl⟩
      rw [← hf'] at TV3
      have z2 := m02.size
      clear tv m3 hf' TW2 m02 c1
      by_cases hne : n1 = n
      · subst hne
        go_wp2_with fail
        refine (bitsAnd _ _ _ _ _ _ _ _ TW3.out.s TV3.out.s).mono ?_; rintro e w4 ⟨x1, y1, rfl, s1, m4, p1, q1⟩
        have A4 := Lib.hid (TW3.out.new m4)
        have B4 := Lib.hid (TV3.out.new m4)
        go_wp2_with fail
        refine (bitsOr _ _ _ _ _ _ _ _ A4.out.s B4.out.s).mono ?_; rintro e w5 ⟨x2, y2, rfl, s2, m5, p2, q2⟩
        have A5 := Lib.hid (A4.out.new m5)
        have B5 := Lib.hid (B4.out.new m5)
        go_wp2_with fail
        refine (bitsLess _ _ _ _ _ _ _ _ A5.out.s B5.out.s).mono ?_; rintro e w6 ⟨x3, y3, rfl, s3, m6, p3, q3⟩
        have A6 := Lib.hid (A5.out.new m6)
        have B6 := Lib.hid (B5.out.new m6)
        have S1 := Lib.hid ((s1.mod m5 (fun h => h) (fun h => h)).mod m6 (fun h => h) (fun h => h))
        have S2 := Lib.hid (s2.mod m6 (fun h => h) (fun h => h))
        have S3 := Lib.hid s3
        have M6 := Lib.hid (((m03.trans m4).trans m5).trans m6)
        have z3 := m03.size
        have z4 := m4.size
        have z5 := m5.size
        have hy : w.heap.size ≤ y1 ∧ w.heap.size ≤ y2 ∧ w.heap.size ≤ y3 := by omega
        have HY := Lib.hid hy
        clear s1 s2 s3 m03 m4 m5 m6 A4 A5 B4 B5 TW3 TV3 p1 p2 p3 q1 q2 q3 z3 z4 z5 gb gg gb' gg' gc gk gc' gk' z2 hy hsz
        go_wp2_with fail
        go_loopw [20] (fun v wr => ∃ k : Nat, v = .int .i64 k ∧ k ≤ 3 ∧ Hid (Mod (fun _ => False) w6 wr)) (fun v _ => 3 - (intOf v).toNat)
        case atStart => exact ⟨0, rfl, by decide, Mod.refl _ _⟩
        case round =>
          obtain ⟨j, rfl, hk, hm⟩ := hrel
          have AR := Lib.hid (A6.out.new hm.out)
          have BR := Lib.hid (B6.out.new hm.out)
          have MR := Lib.hid (M6.out.trans hm.out)
          rcases (show j = 0 ∨ j = 1 ∨ j = 2 ∨ j = 3 by omega) with rfl | rfl | rfl | rfl
          · have SR := Lib.hid (S1.out.mod hm.out (fun h => h) (fun h => h))
            go_wp2_with fail
            refine (refJoin0 _ _ _ _ _ _ _ _ AR.out.r BR.out.r).mono ?_; rintro e w7 ⟨rb, rg, rfl, r7, m7, u1, u2⟩
            have tr : Two w7 x1 y1 rb rg n1 (fAnd f f') := Two.of SR.out m7 r7 u1 u2 hTl HY.out.1 MR.out.size
            have TR := Lib.hid tr
            have m67 := hm.out.trans m7
            have HT7 := Lib.hid (HT.out.mod (MR.out.trans m7) (fun h => h))
            clear tr r7 m7 u1 u2
            go_wp2_with fail
            refine (alikeTwo _ _ _ _ _ _ _ TR.out HT7.out).mono ?_; rintro e w8 ⟨rfl, m8⟩
            have M68 := Lib.hid (m67.trans m8)
            clear m67 m8
            go_wp2_with fail
            exact ⟨⟨1, rfl, by decide, M68⟩, by simp [intOf]⟩
          · have SR := Lib.hid (S2.out.mod hm.out (fun h => h) (fun h => h))
            go_wp2_with fail
            refine (refJoin1 _ _ _ _ _ _ _ _ AR.out.r BR.out.r).mono ?_; rintro e w7 ⟨rb, rg, rfl, r7, m7, u1, u2⟩
            have tr : Two w7 x2 y2 rb rg n1 (fOr f f') := Two.of SR.out m7 r7 u1 u2 hTl HY.out.2.1 MR.out.size
            have TR := Lib.hid tr
            have m67 := hm.out.trans m7
            have HT7 := Lib.hid (HT.out.mod (MR.out.trans m7) (fun h => h))
            clear tr r7 m7 u1 u2
            go_wp2_with fail
            refine (alikeTwo _ _ _ _ _ _ _ TR.out HT7.out).mono ?_; rintro e w8 ⟨rfl, m8⟩
            have M68 := Lib.hid (m67.trans m8)
            clear m67 m8
            go_wp2_with fail
            exact ⟨⟨2, rfl, by decide, M68⟩, by simp [intOf]⟩
          · have SR := Lib.hid (S3.out.mod hm.out (fun h => h) (fun h => h))
            go_wp2_with fail
            refine (refJoin2 _ _ _ _ _ _ _ _ AR.out.r BR.out.r).mono ?_; rintro e w7 ⟨rb, rg, rfl, r7, m7, u1, u2⟩
            have tr : Two w7 x3 y3 rb rg n1 (fLess f f') := Two.of SR.out m7 r7 u1 u2 hTl HY.out.2.2 MR.out.size
            have TR := Lib.hid tr
            have m67 := hm.out.trans m7
            have HT7 := Lib.hid (HT.out.mod (MR.out.trans m7) (fun h => h))
            clear tr r7 m7 u1 u2
            go_wp2_with fail
            refine (alikeTwo _ _ _ _ _ _ _ TR.out HT7.out).mono ?_; rintro e w8 ⟨rfl, m8⟩
            have M68 := Lib.hid (m67.trans m8)
            clear m67 m8
            go_wp2_with fail
            exact ⟨⟨3, rfl, by decide, M68⟩, by simp [intOf]⟩
          · go_wp2_with fail
            refine (alikeTwo _ _ _ _ _ _ _ AR.out (HT.out.mod MR.out (fun h => h))).mono ?_; rintro e w8 ⟨rfl, m8⟩
            have B8 := Lib.hid (BR.out.new m8)
            have M8 := Lib.hid (MR.out.trans m8)
            clear m8
            go_wp2_with fail
            refine (alikeTwo _ _ _ _ _ _ _ B8.out (HT.out.mod M8.out (fun h => h))).mono ?_; rintro e w9 ⟨rfl, m9⟩
            go_wp2_with fail
            go_ret
            exact ⟨rfl, M8.out.trans m9⟩
      · clear gb gg gb' gg' gc gk gc' gk' z2 hsz
        have BAD : ∀ k, ∀ b2, some c = some b2 → ∃ g2 n2 f2, BSet (w3.drewN k) b2 g2 n2 f2 ∧ n2 ≠ n := fun j b2 h => by cases h; exact ⟨_, _, _, (TV3.out.drewN j).s, hne⟩
        have RBAD : ∀ k, ∀ b2, some c' = some b2 → ∃ g2 n2 f2, RSet (w3.drewN k) b2 g2 n2 f2 ∧ n2 ≠ n := fun j b2 h => by cases h; exact ⟨_, _, _, (TV3.out.drewN j).r, hne⟩
        have HBAD := Lib.hid BAD; have HRBAD := Lib.hid RBAD; clear BAD RBAD
        go_wp2_with fail
        refine (bitsAndBad _ _ _ _ (some c) _ TW3.out.s (HBAD.out 0)).mono ?_; rintro e w' ⟨rfl, k1, rfl⟩
        go_wp2_with fail
        refine (bitsOrBad _ _ _ _ (some c) _ (TW3.out.drewN k1).s (HBAD.out k1)).mono ?_; rintro e w' ⟨rfl, k2, rfl⟩
        rw [World.drewN_drewN]
        go_wp2_with fail
        refine (bitsLessBad _ _ _ _ (some c) _ (TW3.out.drewN (k1 + k2)).s (HBAD.out (k1 + k2))).mono ?_; rintro e w' ⟨rfl, k3, rfl⟩
        rw [World.drewN_drewN]
        go_wp2_with fail
        go_loopw [20] (fun v wr => ∃ k : Nat, v = .int .i64 k ∧ k ≤ 3 ∧ Hid (∃ j, wr = w3.drewN j)) (fun v _ => 3 - (intOf v).toNat)
        case atStart => exact ⟨0, rfl, by decide, _, rfl⟩
        case round =>
          obtain ⟨k, rfl, hk, ⟨j, rfl⟩⟩ := hrel
          rcases (show k = 0 ∨ k = 1 ∨ k = 2 ∨ k = 3 by omega) with rfl | rfl | rfl | rfl
          · go_wp2_with fail
            refine (refJoinBad _ _ _ _ (some c') _ _ (TW3.out.drewN j).r (HRBAD.out j)).mono ?_; rintro e w' ⟨rfl, k5, rfl⟩
            rw [World.drewN_drewN]
            go_wp2_with fail
            exact ⟨⟨1, rfl, by decide, ⟨_, rfl⟩⟩, by simp [intOf]⟩
          · go_wp2_with fail
            refine (refJoinBad _ _ _ _ (some c') _ _ (TW3.out.drewN j).r (HRBAD.out j)).mono ?_; rintro e w' ⟨rfl, k5, rfl⟩
            rw [World.drewN_drewN]
            go_wp2_with fail
            exact ⟨⟨2, rfl, by decide, ⟨_, rfl⟩⟩, by simp [intOf]⟩
          · go_wp2_with fail
            refine (refJoinBad _ _ _ _ (some c') _ _ (TW3.out.drewN j).r (HRBAD.out j)).mono ?_; rintro e w' ⟨rfl, k5, rfl⟩
            rw [World.drewN_drewN]
            go_wp2_with fail
            exact ⟨⟨3, rfl, by decide, ⟨_, rfl⟩⟩, by simp [intOf]⟩
          · go_wp2_with fail
            refine (alikeTwo _ _ _ _ _ _ _ (TW3.out.drewN j) (HT.out.mod (m03.drewN j) (fun h => h))).mono ?_; rintro e w8 ⟨rfl, m8⟩
            go_wp2_with fail
            refine (alikeTwo _ _ _ _ _ _ _ (TV3.out.new ((Mod.refl _ _).drewN j |>.trans m8)) (HT.out.mod ((m03.drewN j).trans m8) (fun h => h))).mono ?_; rintro e w9 ⟨rfl, m9⟩
            go_wp2_with fail
            go_ret
            exact ⟨rfl, ((m03.drewN j).trans m8).trans m9⟩
end Go.Proofs.YtdfdkacnejichaaDoor
