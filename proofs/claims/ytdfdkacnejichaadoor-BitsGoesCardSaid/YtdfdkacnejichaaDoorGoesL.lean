/- The walk of the statement BitsGoes: the call returns true and turns nothing that was there; no condition but the library's table. -/
import Derived.Test.YtdfdkacnejichaaDoorBitsX
import Derived.Test.YtdfdkacnejichaaDoorBitsW
namespace Go.Proofs.YtdfdkacnejichaaDoor
open Go Go.RowKit Go.IntWalk

/-- How many of the first k places are so. -/
def co (f : Nat → Bool) (one : Bool) (k : Nat) : Nat := cnt (fun j => f j == one) k
theorem co_none {f : Nat → Bool} {one : Bool} {a : Nat} : ∀ b, a ≤ b → (∀ j, a ≤ j → j < b → f j ≠ one) → co f one b = co f one a
  | 0, h, _ => by have : a = 0 := by omega
                  rw [this]
  | b + 1, h, hn => by
    by_cases e : a = b + 1
    · rw [e]
    · have h1 := co_none b (by omega) (fun j h1 h2 => hn j h1 (by omega))
      show co f one b + (if (f b == one) = true then 1 else 0) = _
      have h2 := hn b (by omega) (by omega)
      rw [h1]
      simp [h2]
theorem co_one {f : Nat → Bool} {one : Bool} {k : Nat} (h : f k = one) : co f one (k + 1) = co f one k + 1 := by
  show co f one k + (if (f k == one) = true then 1 else 0) = _
  simp [h]
theorem co_le (f : Nat → Bool) (one : Bool) (k : Nat) : co f one k ≤ k := cnt_le _ k
theorem co_true (f : Nat → Bool) (n : Nat) : co f true n = cnt f n := cnt_ext fun i _ => by simp
theorem co_false (f : Nat → Bool) : ∀ n, co f false n + cnt f n = n
  | 0 => rfl
  | n + 1 => by
    have := co_false f n
    show co f false n + (if (f n == false) = true then 1 else 0) + (cnt f n + if f n then 1 else 0) = _
    cases f n <;> simp <;> omega

set_option maxRecDepth 100000 in
set_option maxHeartbeats 2000000 in
theorem bitsGoes_walk (n : Int) (a1 : Option Addr) (len1 cap1 : Nat) (l : List St) (one : Bool) (w : World) (hT : TabW w) (_ : (Lit.int .i64 n).wf = true) (hl : IsSteps w a1 len1 l) :
    Calls Tryd.prog 3 #[.int .i64 n, .slice a1 len1 cap1, .bool one] w fun e w' => e = .returned (.bool true) ∧ Below w.heap.size w w' := by
  refine Calls.mono (R := fun e w' => e = .returned (.bool true) ∧ Mod (fun _ => False) w w') ?_ (fun e w' ⟨h1, h2⟩ => ⟨h1, h2.below (Nat.le_refl _) (fun _ h => h.elim)⟩)
  by_cases hbad : n < 0 ∨ 700 < n
  · have HB := Lib.hid hbad
    clear hbad hl
    go_enter Tryd.func3, Tryd.ntmps3
    go_wp2_with fail
    refine (awake02 _).mono ?_; rintro e w1 ⟨rfl, m1⟩
    go_wp2_with fail
    refine (madeBad _ _ _ HB.out).mono ?_; rintro e w' ⟨rfl, rfl⟩
    go_wp2_with fail
    go_ret
    exact ⟨rfl, m1⟩
  · obtain ⟨n, rfl⟩ : ∃ k : Nat, n = k := ⟨n.toNat, by omega⟩
    have hn : n ≤ 700 := by omega
    have HL := Lib.hid hl
    have HT := Lib.hid hT
    have hTl := hT.lt
    clear hbad hl hT
    go_enter Tryd.func3, Tryd.ntmps3
    go_wp2_with fail
    refine (awake02 _).mono ?_; rintro e w1 ⟨rfl, m1⟩
    go_wp2_with fail
    refine (madeOk n a1 len1 cap1 l _ hn (HL.out.new m1) (HT.out.mod m1 (fun h => h))).mono ?_; rintro e w2 ⟨b, g, b', g', rfl, tw, m2, _, _, _, _⟩
    have TW := Lib.hid tw
    have HT2 := Lib.hid ((HT.out.mod m1 (fun h => h)).mod m2 (fun h => h))
    have m12 := m1.trans m2
    obtain ⟨f, hf⟩ : ∃ f, f = stFs n (l.take 60) := ⟨_, rfl⟩
    rw [← hf] at TW
    clear tw m1 m2 hf
    go_wp2_with fail
    refine (bitsNext _ _ _ _ _ _ _ TW.out.s HT2.out).mono ?_; rintro e w' ⟨rfl, rfl⟩
    go_wp2_with fail
    go_loopw [11, 12, 13] (fun c la i wr => ∃ fr : Nat, fr ≤ n ∧ c = .int .i64 (co f one fr : Nat) ∧ la = .int .i64 ((fr : Int) - 1) ∧ i = .int .i64 (nx f one n fr) ∧ wr = w2) (fun _ la _ _ => n - ((intOf la) + 1).toNat)
    case atStart => exact ⟨0, Nat.zero_le _, rfl, rfl, rfl, rfl⟩
    case round =>
      obtain ⟨fr, hfr, rfl, rfl, rfl, rfl⟩ := hrel
      have hco := co_le f one fr
      rcases nx_spec f one n fr with ⟨h1, h2⟩ | ⟨k, h1, h2, h3, h4, h5⟩
      · rw [h1]
        have hcn : co f one fr = co f one n := (co_none n hfr h2).symm
        have hcl := cnt_le f n
        cases one
        · have hfin : ((co f false fr : Nat) : Int) = (n : Int) - (cnt f n : Nat) := by rw [hcn]; have := co_false f n; omega
          have HF := Lib.hid hfin
          clear h1 h2 hcn hfin
          go_wp2_with fail
          refine (bitsCount _ _ _ _ _ TW.out.s).mono ?_; rintro e w' ⟨rfl, rfl⟩
          go_wp2_with fail
          go_ret
          exact ⟨by rw [HF.out]; simp, m12⟩
        · have hfin : ((co f true fr : Nat) : Int) = (cnt f n : Nat) := by rw [hcn, co_true]
          have HF := Lib.hid hfin
          clear h1 h2 hcn hfin
          go_wp2_with fail
          refine (bitsCount _ _ _ _ _ TW.out.s).mono ?_; rintro e w' ⟨rfl, rfl⟩
          go_wp2_with fail
          go_ret
          exact ⟨by rw [HF.out]; simp, m12⟩
      · rw [h1]
        have hhas : hasB f (k : Int) = one := by simp [hasB]; exact h4
        have hcn : co f one (k + 1) = co f one fr + 1 := by rw [co_one h4, co_none k h2 h5]
        have HH := Lib.hid hhas
        have HC := Lib.hid hcn
        have c1 : ¬ (k : Int) ≤ (fr : Int) - 1 := by omega
        have c2 : ¬ (n : Int) ≤ k := by omega
        have c3 : (co f one fr : Int) ≤ n := by omega
        generalize co f one fr = C at *
        clear h1 h4 h5 hhas hcn
        go_wp2_with fail
        refine (bitsHas _ _ _ _ _ _ TW.out.s).mono ?_; rw [HH.out]; rintro e w' ⟨rfl, rfl⟩
        go_wp2_with fail
        refine (bitsNext _ _ _ _ _ _ _ TW.out.s HT2.out).mono ?_; rintro e w' ⟨rfl, rfl⟩
        rw [show ((k : Int) + 1).toNat = k + 1 by omega]
        go_wp2_with fail
        exact ⟨⟨k + 1, by omega, by rw [HC.out]; simp, by congr 1; omega, rfl, by first | trivial | rfl⟩, by simp [intOf]; omega⟩
end Go.Proofs.YtdfdkacnejichaaDoor
