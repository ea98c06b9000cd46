/- Runs of package bits, and of the reference; SameInts; no condition but the library's table. -/
import Derived.Test.YtdfdkacnejichaaDoorRefB
import Derived.Test.YtdfdkacnejichaaDoorApp
import Derived.Test.YtdfdkacnejichaaDoorReg
namespace Go.Proofs.YtdfdkacnejichaaDoor
open Go Go.RowKit Go.IntWalk

/-- Where the places from one on cease to be so. -/
def en (f : Nat → Bool) (n k : Nat) (one : Bool) : Nat := if nx f (!one) n k < 0 then n else (nx f (!one) n k).toNat
theorem en_spec (f : Nat → Bool) (n k : Nat) (one : Bool) (hk : k ≤ n) : k ≤ en f n k one ∧ en f n k one ≤ n ∧ (∀ j, k ≤ j → j < en f n k one → f j = one) ∧ (en f n k one < n → f (en f n k one) = !one) := by
  unfold en
  rcases nx_spec f (!one) n k with ⟨h1, h2⟩ | ⟨i, h1, h2, h3, h4, h5⟩
  · rw [h1, if_pos (by decide)]
    exact ⟨hk, Nat.le_refl _, fun j g1 g2 => by have := h2 j g1 g2; cases one <;> simpa using this, fun h => by omega⟩
  · rw [h1, if_neg (by omega), Int.toNat_natCast]
    exact ⟨h2, by omega, fun j g1 g2 => by have := h5 j g1 g2; cases one <;> simpa using this, fun _ => h4⟩
theorem en_eq {f : Nat → Bool} {n k i : Nat} {one : Bool} (h1 : k ≤ i) (h2 : i ≤ n) (h3 : ∀ j, k ≤ j → j < i → f j = one) (h4 : i < n → f i = !one) : en f n k one = i := by
  obtain ⟨g1, g2, g3, g4⟩ := en_spec f n k one (by omega)
  rcases Nat.lt_trichotomy (en f n k one) i with h | h | h
  · have a := h3 _ g1 h
    have b := g4 (by omega)
    rw [a] at b
    cases one <;> simp at b
  · exact h
  · have a := g3 _ h1 h
    have b := h4 (by omega)
    rw [a] at b
    cases one <;> simp at b
/-- How many noughts and ones follow one another. -/
def rl (f : Nat → Bool) (n : Nat) : Nat → Nat → Bool → List Int
  | 0, _, _ => []
  | m + 1, k, one => if k < n then ((en f n k one : Int) - k) :: rl f n m (en f n k one) (!one) else []
def runsOf (f : Nat → Bool) (n : Nat) : List Int := rl f n (2 * n + 2) 0 false
def ms (f : Nat → Bool) (n k : Nat) (one : Bool) : Nat := 2 * (n - k) + if f k = one then 0 else 1
theorem ms_dec (f : Nat → Bool) (n k : Nat) (one : Bool) (hk : k < n) : ms f n (en f n k one) (!one) < ms f n k one := by
  obtain ⟨g1, g2, g3, g4⟩ := en_spec f n k one (by omega)
  unfold ms
  by_cases h : f k = one
  · rw [if_pos h]
    have : k ≠ en f n k one := by
      intro e
      have := g4 (by omega)
      rw [← e, h] at this
      cases one <;> simp at this
    split <;> omega
  · rw [if_neg h]
    have e : en f n k one = k := en_eq (Nat.le_refl _) (by omega) (fun j a b => by omega) (fun _ => by cases one <;> simpa using h)
    have hh : f k = !one := by cases one <;> simpa using h
    rw [e, if_pos hh]
    omega
theorem ms_le (f : Nat → Bool) (n : Nat) : ms f n 0 false < 2 * n + 2 := by unfold ms; split <;> omega
theorem infoInt : (Tryd.prog.info? 3).map (fun i => (i.zero, i.size, i.bytes)) = some (some (.int .i64 0), 1, 8) := by kernel_rfl
abbrev intL (l : List Int) : List Value := l.map (Value.int .i64)

/-- What is handed back: a list of integers in new memory. -/
def IntsP (l : List Int) (w : World) (e : Ending) (w' : World) : Prop := ∃ v, e = .returned v ∧ w'.ownsRow w.heap.size 3 1 v l.length (intL l) ∧ Mod (fun _ => False) w w'

def boolOf : Value → Bool
  | .bool b => b
  | _ => false
theorem rl_step (f : Nat → Bool) (n m k : Nat) (one : Bool) (h : k < n) : rl f n (m + 1) k one = ((en f n k one : Int) - k) :: rl f n m (en f n k one) (!one) := by
  show (if k < n then _ else _) = _
  rw [if_pos h]
theorem rl_end (f : Nat → Bool) (n m k : Nat) (one : Bool) (h : ¬ k < n) : rl f n m k one = [] := by
  cases m with
  | zero => rfl
  | succ m => show (if k < n then _ else _) = _; rw [if_neg h]

set_option maxRecDepth 100000 in
set_option maxHeartbeats 1000000 in
theorem bitsRuns (b g n : Nat) (f : Nat → Bool) (w : World) (h : BSet w b g n f) (hT : TabW w) :
    Calls Tryd.prog 27 #[.pointer (some ⟨b, 0, none⟩)] w (IntsP (runsOf f n) w) := by
  have hsm := h.small
  have H := Lib.hid h
  have HT := Lib.hid hT
  clear h hT
  go_enter Tryd.func27, Tryd.ntmps27
  go_wp2_with fail
  go_loopw [3, 4, 5] (fun v o k wr => ∃ (xs : List Int) (at' : Nat) (one : Bool) (m : Nat), o = .bool one ∧ k = .int .i64 at' ∧ at' ≤ n ∧ Hid (wr.ownsRow w.heap.size 3 1 v xs.length (intL xs)) ∧ xs.length + m ≤ 2 * n + 2 ∧ ms f n at' one < m ∧ Hid (xs ++ rl f n m at' one = runsOf f n) ∧ Mod (fun _ => False) w wr) (fun _ o k _ => ms f n (intOf k).toNat (boolOf o))
  case atStart => exact ⟨[], 0, false, 2 * n + 2, rfl, rfl, Nat.zero_le _, World.ownsRow_nil _ _ _ _, by simp, ms_le f n, rfl, Mod.refl _ _⟩
  case round =>
    obtain ⟨xs, k, one, m, rfl, rfl, hk, hown, hlen, hms, hrl, hm⟩ := hrel
    have s0 := H.out.mod hm (fun h => h) (fun h => h)
    have d0 := s0.n0
    have S0 := Lib.hid s0
    have T0 := Lib.hid (HT.out.mod hm (fun h => h))
    clear s0
    by_cases hlt : (k : Int) < n
    · have hkn : k < n := by omega
      obtain ⟨m, rfl⟩ : ∃ m', m = m' + 1 := ⟨m - 1, by omega⟩
      have hdec := ms_dec f n k one hkn
      obtain ⟨e1, e2, e3, e4⟩ := en_spec f n k one hk
      have hstep := rl_step f n m k one hkn
      have hnx : (nx f (!one) n k = -1 ∧ en f n k one = n) ∨ nx f (!one) n k = (en f n k one : Nat) := by
        unfold en
        rcases nx_spec f (!one) n k with ⟨h1, _⟩ | ⟨i, h1, _⟩
        · exact .inl ⟨h1, by rw [h1, if_pos (by decide)]⟩
        · exact .inr (by rw [h1, if_neg (by omega), Int.toNat_natCast])
      obtain ⟨E, hE⟩ : ∃ E, E = en f n k one := ⟨_, rfl⟩
      rw [← hE] at hdec e1 e2 hstep hnx
      have HRL : Hid (∀ w' v', w'.ownsRow w.heap.size 3 1 v' (xs.length + 1) (intL xs ++ [.int .i64 ((E : Int) - k)]) → Mod (fun _ => False) w w' → ∃ (ys : List Int) (at' : Nat) (o : Bool) (m' : Nat), Value.bool (!one) = .bool o ∧ Value.int .i64 (E : Int) = .int .i64 at' ∧ at' ≤ n ∧ Hid (w'.ownsRow w.heap.size 3 1 v' ys.length (intL ys)) ∧ ys.length + m' ≤ 2 * n + 2 ∧ ms f n at' o < m' ∧ Hid (ys ++ rl f n m' at' o = runsOf f n) ∧ Mod (fun _ => False) w w') := by
        intro w' v' h1 h2
        refine ⟨xs ++ [(E : Int) - k], E, !one, m, rfl, rfl, e2, ?_, by simp; omega, by omega, ?_, h2⟩
        · show w'.ownsRow _ _ _ _ _ _
          simpa [intL] using h1
        · show _ = _
          rw [List.append_assoc, List.singleton_append, ← hstep]
          exact hrl.out
      have HM := Lib.hid hm
      have HDEC := Lib.hid hdec
      clear hE e3 e4 hstep hrl hm hdec
      rcases hnx with ⟨hnx, rfl⟩ | hnx
      · have HNX := Lib.hid hnx
        clear hnx
        go_wp2_with fail
        refine (bitsNext _ _ _ _ _ _ _ S0.out T0.out).mono ?_; rw [Int.toNat_natCast, HNX.out]; rintro e w' ⟨rfl, rfl⟩
        go_wp2_with (at_builtin; refine app1 rfl (.tmp 26) (.tmp 30) 45 3 rfl Tryd.underlying45 infoInt rfl _ _ _ _ HM.out hown.out rfl rfl rfl (by decide) (by omega) ?_; intro v' w' g1 g2)
        have hfin := HRL.out _ _ g1 g2
        have HF := Lib.hid hfin
        clear hfin g1 g2
        go_wp2_with fail
        go_roundw
        case rel => exact HF.out
        case measure => simpa [intOf, boolOf] using HDEC.out
      · have HNX := Lib.hid hnx
        clear hnx
        go_wp2_with fail
        refine (bitsNext _ _ _ _ _ _ _ S0.out T0.out).mono ?_; rw [Int.toNat_natCast, HNX.out]; rintro e w' ⟨rfl, rfl⟩
        go_wp2_with (at_builtin; refine app1 rfl (.tmp 26) (.tmp 30) 45 3 rfl Tryd.underlying45 infoInt rfl _ _ _ _ HM.out hown.out rfl rfl rfl (by decide) (by omega) ?_; intro v' w' g1 g2)
        have hfin := HRL.out _ _ g1 g2
        have HF := Lib.hid hfin
        clear hfin g1 g2
        go_wp2_with fail
        go_roundw
        case rel => exact HF.out
        case measure => simpa [intOf, boolOf] using HDEC.out
    · have hx : xs = runsOf f n := by
        have := hrl.out
        rw [rl_end f n m k one (by omega), List.append_nil] at this
        exact this
      have HX := Lib.hid hx
      clear hx
      go_wp2_with fail
      go_ret
      exact ⟨_, rfl, by rw [← HX.out]; exact hown.out, hm⟩

set_option maxRecDepth 100000 in
set_option maxHeartbeats 1000000 in
theorem refRuns (b g n : Nat) (f : Nat → Bool) (w : World) (h : RSet w b g n f) :
    Calls Tryd.prog 35 #[.pointer (some ⟨b, 0, none⟩)] w (IntsP (runsOf f n) w) := by
  have hsm := h.small
  have H := Lib.hid h
  clear h
  go_enter Tryd.func35, Tryd.ntmps35
  go_wp2_with fail
  go_loopw [3, 4, 5] (fun v o k wr => ∃ (xs : List Int) (at' : Nat) (one : Bool) (m : Nat), o = .bool one ∧ k = .int .i64 at' ∧ at' ≤ n ∧ Hid (wr.ownsRow w.heap.size 3 1 v xs.length (intL xs)) ∧ xs.length + m ≤ 2 * n + 2 ∧ ms f n at' one < m ∧ Hid (xs ++ rl f n m at' one = runsOf f n) ∧ Mod (fun _ => False) w wr) (fun _ o k _ => ms f n (intOf k).toNat (boolOf o))
  case atStart => exact ⟨[], 0, false, 2 * n + 2, rfl, rfl, Nat.zero_le _, World.ownsRow_nil _ _ _ _, by simp, ms_le f n, rfl, Mod.refl _ _⟩
  case round =>
    obtain ⟨xs, k, one, m, rfl, rfl, hk, hown, hlen, hms, hrl, hm⟩ := hrel
    have s0 := H.out.mod hm (fun h => h) (fun h => h)
    obtain ⟨c, d0⟩ := s0.s0
    have S0 := Lib.hid s0
    clear s0
    by_cases hlt : (k : Int) < n
    · have hkn : k < n := by omega
      obtain ⟨m, rfl⟩ : ∃ m', m = m' + 1 := ⟨m - 1, by omega⟩
      have hdec := ms_dec f n k one hkn
      obtain ⟨e1, e2, e3, e4⟩ := en_spec f n k one hk
      have hstep := rl_step f n m k one hkn
      have HEN := Lib.hid (fun i => @en_eq f n k i one)
      obtain ⟨E, hE⟩ : ∃ E, E = en f n k one := ⟨_, rfl⟩
      rw [← hE] at hdec e1 e2 hstep HEN
      have HRL : Hid (∀ w' v', w'.ownsRow w.heap.size 3 1 v' (xs.length + 1) (intL xs ++ [.int .i64 ((E : Int) - k)]) → Mod (fun _ => False) w w' → ∃ (ys : List Int) (at' : Nat) (o : Bool) (m' : Nat), Value.bool (!one) = .bool o ∧ Value.int .i64 (E : Int) = .int .i64 at' ∧ at' ≤ n ∧ Hid (w'.ownsRow w.heap.size 3 1 v' ys.length (intL ys)) ∧ ys.length + m' ≤ 2 * n + 2 ∧ ms f n at' o < m' ∧ Hid (ys ++ rl f n m' at' o = runsOf f n) ∧ Mod (fun _ => False) w w') := by
        intro w' v' h1 h2
        refine ⟨xs ++ [(E : Int) - k], E, !one, m, rfl, rfl, e2, ?_, by simp; omega, by omega, ?_, h2⟩
        · show w'.ownsRow _ _ _ _ _ _
          simpa [intL] using h1
        · show _ = _
          rw [List.append_assoc, List.singleton_append, ← hstep]
          exact hrl.out
      have HM := Lib.hid hm
      have HDEC := Lib.hid hdec
      clear hE e3 e4 hstep hrl hm hdec
      go_wp2_with fail
      obtain ⟨wa, hwa⟩ : ∃ wa : World, wa = wr := ⟨_, rfl⟩
      rw [← hwa] at d0 S0 hown HM ⊢
      clear hwa wr
      go_loopw [5, 6] (fun i c wr => ∃ j : Nat, i = .int .i64 j ∧ c = .int .i64 ((j : Int) - k) ∧ k ≤ j ∧ j ≤ n ∧ Hid (∀ x, k ≤ x → x < j → f x = one) ∧ wr = wa) (fun i _ _ => n - (intOf i).toNat)
      case atStart => exact ⟨k, rfl, by congr 1; omega, Nat.le_refl _, hk, fun x h1 h2 => by omega, rfl⟩
      case round =>
        obtain ⟨j, rfl, rfl, hj1, hj2, hall, rfl⟩ := hrel
        by_cases hjn : j < n
        · obtain ⟨d1, _⟩ := S0.out.at hjn
          by_cases hfj : f j = one
          · have hnew : ∀ x, k ≤ x → x < j + 1 → f x = one := by
              intro x h1 h2
              by_cases e : x = j
              · rw [e]; exact hfj
              · exact hall.out x h1 (by omega)
            have HN := Lib.hid hnew
            rw [hfj] at d1
            have hjn' : (j : Int) < n := by omega
            clear hnew hfj
            go_wp2_with fail
            exact ⟨⟨j + 1, by go_num, by congr 1; omega, by omega, by omega, HN, by first | trivial | rfl⟩, by simp [intOf]; omega⟩
          · have hEj : E = j := HEN.out j hj1 hj2 hall.out (fun _ => by cases one <;> simpa using hfj)
            subst hEj
            have hfj2 : (f E == one) = false := by simpa using hfj
            have hjn' : (E : Int) < n := by omega
            generalize f E = v0 at d1 hfj2
            clear hfj
            go_wp2_with (at_builtin; refine app1 rfl (.tmp 36) (.tmp 38) 45 3 rfl Tryd.underlying45 infoInt rfl _ _ _ _ HM.out hown.out rfl rfl rfl (by decide) (by omega) ?_; intro v' w' g1 g2)
            have hfin := HRL.out _ _ g1 g2
            have HF := Lib.hid hfin
            clear hfin g1 g2
            go_wp2_with fail
            go_roundw
            case rel => exact HF.out
            case measure => simpa [intOf, boolOf] using HDEC.out
        · have hjn2 : j = n := by omega
          have hEj : E = j := HEN.out j hj1 hj2 hall.out (fun h => by omega)
          subst hEj
          have hjn' : ¬ (E : Int) < n := by omega
          clear hjn2
          go_wp2_with (at_builtin; refine app1 rfl (.tmp 36) (.tmp 38) 45 3 rfl Tryd.underlying45 infoInt rfl _ _ _ _ HM.out hown.out rfl rfl rfl (by decide) (by omega) ?_; intro v' w' g1 g2)
          have hfin := HRL.out _ _ g1 g2
          have HF := Lib.hid hfin
          clear hfin g1 g2
          go_wp2_with fail
          go_roundw
          case rel => exact HF.out
          case measure => simpa [intOf, boolOf] using HDEC.out
    · have hx : xs = runsOf f n := by
        have := hrl.out
        rw [rl_end f n m k one (by omega), List.append_nil] at this
        exact this
      have HX := Lib.hid hx
      clear hx
      go_wp2_with fail
      go_ret
      exact ⟨_, rfl, by rw [← HX.out]; exact hown.out, hm⟩
end Go.Proofs.YtdfdkacnejichaaDoor
