/- The walk of the statement BitsCounts: the call returns true and turns nothing that was there; no condition but the library's table. -/
import Derived.Test.YtdfdkacnejichaaDoorJoin
import Derived.Test.YtdfdkacnejichaaDoorBitsX
import Derived.Test.YtdfdkacnejichaaDoorBitsW
namespace Go.Proofs.YtdfdkacnejichaaDoor
open Go Go.RowKit Go.IntWalk

theorem cnt_and_or (f g : Nat → Bool) : ∀ n, cnt (fAnd f g) n + cnt (fOr f g) n = cnt f n + cnt g n
  | 0 => rfl
  | n + 1 => by
    have := cnt_and_or f g n
    show cnt (fAnd f g) n + (if (f n && g n) then 1 else 0) + (cnt (fOr f g) n + (if (f n || g n) then 1 else 0)) = cnt f n + (if f n then 1 else 0) + (cnt g n + (if g n then 1 else 0))
    cases f n <;> cases g n <;> simp <;> omega
theorem cnt_less_and (f g : Nat → Bool) : ∀ n, cnt (fLess f g) n + cnt (fAnd f g) n = cnt f n
  | 0 => rfl
  | n + 1 => by
    have := cnt_less_and f g n
    show cnt (fLess f g) n + (if (f n && !g n) then 1 else 0) + (cnt (fAnd f g) n + (if (f n && g n) then 1 else 0)) = cnt f n + (if f n then 1 else 0)
    cases f n <;> cases g n <;> simp <;> omega

set_option maxRecDepth 100000 in
set_option maxHeartbeats 2000000 in
theorem bitsCounts_walk (n : Int) (a1 : Option Addr) (len1 cap1 : Nat) (l1 : List St) (a2 : Option Addr) (len2 cap2 : Nat) (l2 : List St) (w : World) (hT : TabW w) (_ : (Lit.int .i64 n).wf = true) (hl1 : IsSteps w a1 len1 l1) (hl2 : IsSteps w a2 len2 l2) :
    Calls Tryd.prog 6 #[.int .i64 n, .slice a1 len1 cap1, .slice a2 len2 cap2] w fun e w' => e = .returned (.bool true) ∧ Below w.heap.size w w' := by
  refine Calls.mono (R := fun e w' => e = .returned (.bool true) ∧ Mod (fun _ => False) w w') ?_ (fun e w' ⟨h1, h2⟩ => ⟨h1, h2.below (Nat.le_refl _) (fun _ h => h.elim)⟩)
  by_cases hbad : n < 0 ∨ 700 < n
  · have HB := Lib.hid hbad
    clear hbad hl1 hl2
    go_enter Tryd.func6, Tryd.ntmps6
    go_wp2_with fail
    refine (awake02 _).mono ?_; rintro e w1 ⟨rfl, m1⟩
    go_wp2_with fail
    refine (madeBad _ _ _ HB.out).mono ?_; rintro e w' ⟨rfl, rfl⟩
    go_wp2_with fail
    refine (madeBad _ _ _ HB.out).mono ?_; rintro e w' ⟨rfl, rfl⟩
    go_wp2_with fail
    go_ret
    exact ⟨rfl, m1⟩
  · obtain ⟨n, rfl⟩ : ∃ k : Nat, n = k := ⟨n.toNat, by omega⟩
    have hn : n ≤ 700 := by omega
    have HL1 := Lib.hid hl1
    have HL2 := Lib.hid hl2
    have HT := Lib.hid hT
    clear hbad hl1 hl2 hT
    go_enter Tryd.func6, Tryd.ntmps6
    go_wp2_with fail
    refine (awake02 _).mono ?_; rintro e w1 ⟨rfl, m1⟩
    go_wp2_with fail
    refine (madeOk n a1 len1 cap1 l1 _ hn (HL1.out.new m1) (HT.out.mod m1 (fun h => h))).mono ?_; rintro e w2 ⟨b, g, b', g', rfl, tw, m2, _, _, _, _⟩
    have m12 := m1.trans m2
    go_wp2_with fail
    refine (madeOk n a2 len2 cap2 l2 _ hn (HL2.out.new m12) (HT.out.mod m12 (fun h => h))).mono ?_; rintro e w3 ⟨c, k, c', k', rfl, tv, m3, _, _, _, _⟩
    have A3 := Lib.hid (tw.s.mod m3 (fun h => h) (fun h => h))
    have B3 := Lib.hid tv.s
    have m13 := m12.trans m3
    obtain ⟨f, hf⟩ : ∃ f, f = stFs n (l1.take 60) := ⟨_, rfl⟩
    obtain ⟨f', hf'⟩ : ∃ f, f = stFs n (l2.take 60) := ⟨_, rfl⟩
    rw [← hf] at A3
    rw [← hf'] at B3
    clear tw tv m1 m2 m3 m12 hf hf'
    go_wp2_with fail
    refine (bitsAnd _ _ _ _ _ _ _ _ A3.out B3.out).mono ?_; rintro e w4 ⟨x1, y1, rfl, s1, m4, _, _⟩
    have A4 := Lib.hid (A3.out.mod m4 (fun h => h) (fun h => h))
    have B4 := Lib.hid (B3.out.mod m4 (fun h => h) (fun h => h))
    go_wp2_with fail
    refine (bitsOr _ _ _ _ _ _ _ _ A4.out B4.out).mono ?_; rintro e w5 ⟨x2, y2, rfl, s2, m5, _, _⟩
    have A5 := Lib.hid (A4.out.mod m5 (fun h => h) (fun h => h))
    have B5 := Lib.hid (B4.out.mod m5 (fun h => h) (fun h => h))
    go_wp2_with fail
    refine (bitsLess _ _ _ _ _ _ _ _ A5.out B5.out).mono ?_; rintro e w6 ⟨x3, y3, rfl, s3, m6, _, _⟩
    have A6 := Lib.hid (A5.out.mod m6 (fun h => h) (fun h => h))
    have B6 := Lib.hid (B5.out.mod m6 (fun h => h) (fun h => h))
    have S1 := Lib.hid ((s1.mod m5 (fun h => h) (fun h => h)).mod m6 (fun h => h) (fun h => h))
    have S2 := Lib.hid (s2.mod m6 (fun h => h) (fun h => h))
    have S3 := Lib.hid s3
    have m16 := ((m13.trans m4).trans m5).trans m6
    clear s1 s2 s3 m4 m5 m6 m13 A3 A4 A5 B3 B4 B5
    have h1 := cnt_and_or f f' n
    have h2 := cnt_less_and f f' n
    have HC1 : Hid (((cnt (fAnd f f') n : Nat) : Int) + (cnt (fOr f f') n : Nat) = (cnt f n : Nat) + (cnt f' n : Nat)) := (by omega : ((cnt (fAnd f f') n : Nat) : Int) + (cnt (fOr f f') n : Nat) = (cnt f n : Nat) + (cnt f' n : Nat))
    have HC2 : Hid (((cnt (fLess f f') n : Nat) : Int) + (cnt (fAnd f f') n : Nat) = (cnt f n : Nat)) := (by omega : ((cnt (fLess f f') n : Nat) : Int) + (cnt (fAnd f f') n : Nat) = (cnt f n : Nat))
    clear h1 h2
    have l1 := cnt_le (fAnd f f') n; have l2 := cnt_le (fOr f f') n; have l3 := cnt_le (fLess f f') n; have l4 := cnt_le f n; have l5 := cnt_le f' n
    go_wp2_with fail
    refine (bitsCount _ _ _ _ _ S1.out).mono ?_; rintro e w' ⟨rfl, rfl⟩
    go_wp2_with fail
    refine (bitsCount _ _ _ _ _ S2.out).mono ?_; rintro e w' ⟨rfl, rfl⟩
    go_wp2_with fail
    refine (bitsCount _ _ _ _ _ A6.out).mono ?_; rintro e w' ⟨rfl, rfl⟩
    go_wp2_with fail
    refine (bitsCount _ _ _ _ _ B6.out).mono ?_; rintro e w' ⟨rfl, rfl⟩
    have e1 := HC1.out
    go_wp2_with fail
    clear e1
    refine (bitsCount _ _ _ _ _ S3.out).mono ?_; rintro e w' ⟨rfl, rfl⟩
    go_wp2_with fail
    refine (bitsCount _ _ _ _ _ S1.out).mono ?_; rintro e w' ⟨rfl, rfl⟩
    go_wp2_with fail
    refine (bitsCount _ _ _ _ _ A6.out).mono ?_; rintro e w' ⟨rfl, rfl⟩
    have e2 := HC2.out
    go_wp2_with fail
    go_ret
    exact ⟨by simp, m16⟩
end Go.Proofs.YtdfdkacnejichaaDoor
