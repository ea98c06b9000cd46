/- The reference of package bits: Has, Fill, Put, Next, Count; no condition. -/
import Derived.Test.YtdfdkacnejichaaDoorBitsR
import Derived.Test.YtdfdkacnejichaaDoorBitsN
import Derived.Test.YtdfdkacnejichaaDoorBitsH
namespace Go.Proofs.YtdfdkacnejichaaDoor
open Go Go.RowKit Go.IntWalk

set_option maxRecDepth 100000 in
set_option maxHeartbeats 1000000 in
theorem refHas (b g n : Nat) (f : Nat → Bool) (i : Int) (w : World) (h : RSet w b g n f) (hout : ∀ i, n ≤ i → f i = false) :
    Calls Tryd.prog 46 #[.pointer (some ⟨b, 0, none⟩), .int .i64 i] w fun e w' => e = .returned (.bool (hasB f i)) ∧ w = w' := by
  obtain ⟨c, d0⟩ := h.s0
  have hsm := h.small
  by_cases h0 : 0 ≤ i
  · obtain ⟨k, rfl⟩ : ∃ k : Nat, i = k := ⟨i.toNat, by omega⟩
    by_cases h1 : k < n
    · obtain ⟨d1, _⟩ := h.at h1
      have hx : hasB f (k : Int) = f k := by simp [hasB]
      rw [hx]
      generalize f k = v at d1
      have h1' : (k : Int) < n := by omega
      clear h hx hout
      go_enter Tryd.func46, Tryd.ntmps46
      go_wp2_with fail
      go_ret
      exact ⟨rfl, rfl⟩
    · have hx : hasB f (k : Int) = false := by simp [hasB]; exact hout k (by omega)
      rw [hx]
      have h1' : ¬ ((k : Int) < n) := by omega
      clear h hx hout
      go_enter Tryd.func46, Tryd.ntmps46
      go_wp2_with fail
      go_ret
      exact ⟨rfl, rfl⟩
  · have hx : hasB f i = false := by simp [hasB, h0]
    rw [hx]
    clear h hx hout
    go_enter Tryd.func46, Tryd.ntmps46
    go_wp2_with fail
    go_ret
    exact ⟨rfl, rfl⟩

set_option maxHeartbeats 400000 in
theorem refFillBad (b g n : Nat) (f : Nat → Bool) (i j : Int) (one : Bool) (w : World) (h : RSet w b g n f) (hbad : i < 0 ∨ j < i ∨ n < j) :
    Calls Tryd.prog 43 #[.pointer (some ⟨b, 0, none⟩), .int .i64 i, .int .i64 j, .bool one] w fun e w' => e = .returned (.int .i64 1) ∧ w = w' := by
  obtain ⟨c, d0⟩ := h.s0
  clear h
  go_enter Tryd.func43, Tryd.ntmps43
  by_cases h1 : i < 0
  · go_wp2
    go_ret
    exact ⟨rfl, rfl⟩
  · by_cases h2 : j < i
    · go_wp2
      go_ret
      exact ⟨rfl, rfl⟩
    · have h3 : (n : Int) < j := by omega
      go_wp2
      go_ret
      exact ⟨rfl, rfl⟩

set_option maxHeartbeats 1000000 in
theorem refFill (b g n : Nat) (f : Nat → Bool) (i j : Nat) (one : Bool) (w : World) (h : RSet w b g n f) (h1 : i ≤ j) (h2 : j ≤ n) :
    Calls Tryd.prog 43 #[.pointer (some ⟨b, 0, none⟩), .int .i64 i, .int .i64 j, .bool one] w fun e w' => e = .returned (.int .i64 0) ∧ RSet w' b g n (fil f i j one) ∧ Mod (· = g) w w' := by
  obtain ⟨c, d0⟩ := h.s0
  have hn := h.small
  have h3 : ¬ (i : Int) < 0 := by omega
  have h4 : ¬ (j : Int) < i := by omega
  have h5 : ¬ (n : Int) < j := by omega
  have H := Lib.hid h
  clear h
  go_enter Tryd.func43, Tryd.ntmps43
  go_wp2_with fail
  clear d0
  go_loopw [9] (fun v wr => ∃ k : Nat, v = .int .i64 k ∧ i ≤ k ∧ k ≤ j ∧ Hid (RSet wr b g n (fil f i k one)) ∧ Mod (· = g) w wr) (fun v _ => j - (intOf v).toNat)
  case atStart => exact ⟨i, rfl, Nat.le_refl _, h1, by rw [fil_self]; exact H, Mod.refl _ _⟩
  case round =>
    obtain ⟨k, rfl, hik, hkj, hs, hm⟩ := hrel
    by_cases hl : (k : Int) < j
    · have hkn : k < n := by omega
      obtain ⟨d1, d2⟩ := hs.out.at hkn
      obtain ⟨c, d3⟩ := hs.out.s0
      have hnx : RSet (wr.setCell ⟨g, k, none⟩ (.bool one)) b g n (fil f i (k + 1) one) := by
        refine hs.out.put k _ _ ?_ (fun x hx => ?_)
        · unfold fil; rw [if_pos (by omega)]
        · unfold fil
          by_cases e : i ≤ x ∧ x < k
          · rw [if_pos e, if_pos (by omega)]
          · rw [if_neg e, if_neg (by omega)]
      have HNX := Lib.hid hnx
      clear hnx
      go_wp2_with fail
      exact ⟨⟨k + 1, by go_num, by omega, by omega, HNX, hm.setCell (.inl rfl) _⟩, by simp [intOf]; omega⟩
    · have hkj2 : k = j := by omega
      subst hkj2
      go_wp2_with fail
      go_ret
      exact ⟨rfl, hs.out, hm⟩

set_option maxHeartbeats 400000 in
theorem refPutBad (b g n : Nat) (f : Nat → Bool) (i : Int) (one : Bool) (w : World) (h : RSet w b g n f) (hbad : i < 0 ∨ n ≤ i) :
    Calls Tryd.prog 44 #[.pointer (some ⟨b, 0, none⟩), .int .i64 i, .bool one] w fun e w' => e = .returned (.int .i64 1) ∧ w = w' := by
  obtain ⟨c, d0⟩ := h.s0
  clear h
  go_enter Tryd.func44, Tryd.ntmps44
  by_cases h1 : i < 0
  · go_wp2
    go_ret
    exact ⟨rfl, rfl⟩
  · have h3 : (n : Int) ≤ i := by omega
    go_wp2
    go_ret
    exact ⟨rfl, rfl⟩

set_option maxHeartbeats 400000 in
theorem refPut (b g n : Nat) (f : Nat → Bool) (i : Nat) (one : Bool) (w : World) (h : RSet w b g n f) (hi : i < n) :
    Calls Tryd.prog 44 #[.pointer (some ⟨b, 0, none⟩), .int .i64 i, .bool one] w fun e w' => e = .returned (.int .i64 0) ∧ RSet w' b g n (fil f i (i + 1) one) ∧ Mod (· = g) w w' := by
  obtain ⟨c, d0⟩ := h.s0
  have hn := h.small
  obtain ⟨d1, d2⟩ := h.at hi
  have h1 : ¬ (i : Int) < 0 := by omega
  have h3 : ¬ (n : Int) ≤ i := by omega
  have hnx : RSet (w.setCell ⟨g, i, none⟩ (.bool one)) b g n (fil f i (i + 1) one) := by
    refine h.put i _ _ ?_ (fun x hx => ?_)
    · unfold fil; rw [if_pos (by omega)]
    · unfold fil; rw [if_neg (by omega)]
  have HNX := Lib.hid hnx
  clear h hnx
  go_enter Tryd.func44, Tryd.ntmps44
  go_wp2_with fail
  go_ret
  exact ⟨rfl, HNX.out, (Mod.refl (· = g) w).setCell (p := ⟨g, i, none⟩) (.inl rfl) _⟩

set_option maxRecDepth 100000 in
set_option maxHeartbeats 1000000 in
theorem refNext (b g n : Nat) (f : Nat → Bool) (from' : Int) (one : Bool) (w : World) (h : RSet w b g n f) :
    Calls Tryd.prog 45 #[.pointer (some ⟨b, 0, none⟩), .int .i64 from', .bool one] w fun e w' => e = .returned (.int .i64 (nx f one n from'.toNat)) ∧ w = w' := by
  obtain ⟨c, d0⟩ := h.s0
  have hsm := h.small
  have hmax : max from' 0 = (from'.toNat : Int) := by omega
  generalize from'.toNat = fr at *
  have H := Lib.hid h
  clear h
  go_enter Tryd.func45, Tryd.ntmps45
  go_wp2_with fail
  go_loopw [7] (fun i wr => ∃ k : Nat, i = .int .i64 k ∧ fr ≤ k ∧ Hid (∀ i, fr ≤ i → i < k → i < n → f i ≠ one) ∧ wr = w) (fun i _ => n - (intOf i).toNat)
  case atStart => exact ⟨fr, rfl, Nat.le_refl _, fun i h1 h2 => by omega, rfl⟩
  case round =>
    obtain ⟨k, rfl, hk2, hno, rfl⟩ := hrel
    by_cases hlt : (k : Int) < n
    · have hkn : k < n := by omega
      obtain ⟨d1, _⟩ := H.out.at hkn
      by_cases hf : f k = one
      · have hx : nx f one n fr = k := nx_yes hf hk2 hkn (fun j g1 g2 => hno.out j g1 g2 (by omega))
        have HX := Lib.hid hx
        rw [hf] at d1
        clear hx hf
        go_wp2_with fail
        go_ret
        exact ⟨by rw [HX.out]; rfl, rfl⟩
      · have hnew : ∀ i, fr ≤ i → i < k + 1 → i < n → f i ≠ one := by
          intro i h1 h2 h3
          by_cases e : i = k
          · subst e; exact hf
          · exact hno.out i h1 (by omega) h3
        have HN := Lib.hid hnew
        have hb : (f k == one) = false := by simpa using hf
        generalize f k = v at d1 hb
        clear hnew hf
        go_wp2_with fail
        exact ⟨⟨k + 1, by go_num, by omega, HN, by first | trivial | rfl⟩, by simp [intOf]; omega⟩
    · have hx : nx f one n fr = -1 := nx_no fun i h1 h2 => hno.out i h1 (by omega) h2
      have HX := Lib.hid hx
      clear hx
      go_wp2_with fail
      go_ret
      exact ⟨by rw [HX.out]; rfl, rfl⟩

set_option maxHeartbeats 400000 in
theorem refCount (b g n : Nat) (f : Nat → Bool) (w : World) (h : RSet w b g n f) :
    Calls Tryd.prog 37 #[.pointer (some ⟨b, 0, none⟩)] w fun e w' => e = .returned (.int .i64 (cnt f n : Nat)) ∧ w = w' := by
  obtain ⟨c, d0⟩ := h.s0
  have hsm := h.small
  have H := Lib.hid h
  clear h
  go_enter Tryd.func37, Tryd.ntmps37
  go_wp2_with fail
  go_loopw [3, 4] (fun s i wr => ∃ k : Nat, k ≤ n ∧ i = .int .i64 k ∧ s = .int .i64 (cnt f k : Nat) ∧ wr = w) (fun _ i _ => n - (intOf i).toNat)
  case atStart => exact ⟨0, by omega, rfl, rfl, rfl⟩
  case round =>
    obtain ⟨k, hk, rfl, rfl, rfl⟩ := hrel
    by_cases hlt : (k : Int) < n
    · obtain ⟨d1, _⟩ := H.out.at (k := k) (by omega)
      have hc3 := cnt_le f k
      cases hf : f k
      · have hc : cnt f (k + 1) = cnt f k := by show cnt f k + (if f k then 1 else 0) = _; rw [hf]; simp
        rw [hf] at d1
        have HC := Lib.hid hc
        clear hc hf
        go_wp2_with fail
        exact ⟨⟨k + 1, by omega, by go_num, by rw [HC.out], by first | trivial | rfl⟩, by simp [intOf]; omega⟩
      · have hc : cnt f (k + 1) = cnt f k + 1 := by show cnt f k + (if f k then 1 else 0) = _; rw [hf]; simp
        rw [hf] at d1
        have HC := Lib.hid hc
        clear hc hf
        go_wp2_with fail
        exact ⟨⟨k + 1, by omega, by go_num, by rw [HC.out]; simp, by first | trivial | rfl⟩, by simp [intOf]; omega⟩
    · obtain rfl : k = n := by omega
      go_wp2_with fail
      go_ret
      exact ⟨rfl, rfl⟩
end Go.Proofs.YtdfdkacnejichaaDoor
