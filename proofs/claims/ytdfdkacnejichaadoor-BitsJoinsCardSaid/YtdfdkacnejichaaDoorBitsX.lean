/- A set made by steps, and the reference's; no condition. -/
import Derived.Test.YtdfdkacnejichaaDoorBitsV
import Derived.Deep.Slices
import Derived.Deep.Fields
import Derived.ChangeSame
namespace Go.Proofs.YtdfdkacnejichaaDoor
open Go Go.RowKit Go.IntWalk

/-- A slice of steps that came in. -/
def IsSteps (w : World) (a : Option Addr) (len : Nat) (l : List St) : Prop :=
  l.length = len ∧ (len : Int) ≤ 9223372036854775807 ∧ ∀ i t, l[i]? = some t → ∃ x, a = some x ∧ w.cell? (x.add (i * 4)) = some (.int .i64 t.d) ∧ w.cell? ⟨(x.add (i * 4)).block, (x.add (i * 4)).off + 1, none⟩ = some (.int .i64 t.i) ∧ w.cell? ⟨(x.add (i * 4)).block, (x.add (i * 4)).off + 2, none⟩ = some (.int .i64 t.j) ∧ w.cell? ⟨(x.add (i * 4)).block, (x.add (i * 4)).off + 3, none⟩ = some (.bool t.one)
theorem IsSteps.new {w w' : World} {a : Option Addr} {len : Nat} {l : List St} (h : IsSteps w a len l) (hm : Mod (fun _ => False) w w') : IsSteps w' a len l :=
  ⟨h.1, h.2.1, fun i t hi => by
    obtain ⟨x, rfl, h0, h1, h2, h3⟩ := h.2.2 i t hi
    exact ⟨x, rfl, hm.cell h0 (fun h => h), hm.cell h1 (fun h => h), hm.cell h2 (fun h => h), hm.cell h3 (fun h => h)⟩⟩

def stFs (n : Nat) (l : List St) : Nat → Bool := l.foldl (stF n) (fun _ => false)
theorem stFs_snoc (n : Nat) (l : List St) (k : Nat) (t : St) (h : l[k]? = some t) : stFs n (l.take (k + 1)) = stF n (stFs n (l.take k)) t := by
  unfold stFs
  rw [List.take_add_one, h, List.foldl_append]
  rfl

set_option maxHeartbeats 400000 in
theorem madeBad (n : Int) (sv : Value) (w : World) (h : n < 0 ∨ 700 < n) :
    Calls Tryd.prog 12 #[.int .i64 n, sv] w fun e w' => e = .returned (.tuple #[.pointer none, .pointer none, .bool true]) ∧ w = w' := by
  rcases h with h | h
  · go_enter Tryd.func12, Tryd.ntmps12
    go_wp2_with fail
    go_ret3
    exact ⟨rfl, rfl⟩
  · have h2 : ¬ n < 0 := by omega
    go_enter Tryd.func12, Tryd.ntmps12
    go_wp2_with fail
    go_ret3
    exact ⟨rfl, rfl⟩

/-- What 'made' hands back. -/
def MadeP (n : Nat) (l : List St) (w : World) (e : Ending) (w' : World) : Prop :=
  ∃ b g b' g' : Nat, e = .returned (.tuple #[.pointer (some ⟨b, 0, none⟩), .pointer (some ⟨b', 0, none⟩), .bool true]) ∧ Two w' b g b' g' n (stFs n (l.take 60)) ∧ Mod (fun _ => False) w w' ∧ w.heap.size ≤ b ∧ w.heap.size ≤ g ∧ w.heap.size ≤ b' ∧ w.heap.size ≤ g'
set_option maxRecDepth 100000 in
set_option maxHeartbeats 1000000 in
theorem madeOk (n : Nat) (a : Option Addr) (len cap : Nat) (l : List St) (w : World) (hn : n ≤ 700) (hl : IsSteps w a len l) (hT : TabW w) :
    Calls Tryd.prog 12 #[.int .i64 n, .slice a len cap] w (MadeP n l w) := by
  have h1 : ¬ (n : Int) < 0 := by omega
  have h2 : ¬ (700 : Int) < n := by omega
  have HL := Lib.hid hl
  have hlen := hl.2.1
  have hTl := hT.lt
  have HT := Lib.hid hT
  clear hl hT
  go_enter Tryd.func12, Tryd.ntmps12
  go_wp2_with fail
  refine (bitsNew n _ (by omega)).mono ?_; rintro e w1 ⟨rfl, s1, m1⟩
  go_wp2_with fail
  refine (refNew n _ (by omega)).mono ?_; rintro e w2 ⟨rfl, r2, m2⟩
  have z1 := s1.lt
  have s2 := s1.mod m2 (fun h => h) (fun h => h)
  have two : Two w2 (w.heap.size + 1) w.heap.size (w1.heap.size + 1) w1.heap.size n (fun _ => false) := ⟨s2, r2, by omega, by omega, by omega, by omega, by omega⟩
  have m12 := m1.trans m2
  have m1s := m1.size
  obtain ⟨b, hb⟩ : ∃ b, b = w.heap.size + 1 := ⟨_, rfl⟩
  obtain ⟨g, hg⟩ : ∃ g, g = w.heap.size := ⟨_, rfl⟩
  obtain ⟨b', hb'⟩ : ∃ b, b = w1.heap.size + 1 := ⟨_, rfl⟩
  obtain ⟨g', hg'⟩ : ∃ g, g = w1.heap.size := ⟨_, rfl⟩
  rw [← hb, ← hg, ← hb', ← hg'] at two
  rw [← hb, ← hb']
  have hnew : w.heap.size ≤ b ∧ w.heap.size ≤ g ∧ w.heap.size ≤ b' ∧ w.heap.size ≤ g' := by omega
  have HNEW := Lib.hid hnew
  have hno : gTab < w.heap.size ∧ w.heap.size ≤ g ∧ w.heap.size ≤ g' := ⟨hTl, hnew.2.1, hnew.2.2.2⟩
  have TWO := Lib.hid two
  clear s1 r2 m1 m2 z1 s2 two hb hg hb' hg' hnew
  go_wp2_with fail
  go_loopw [11] (fun v wr => ∃ k : Nat, v = .int .i64 k ∧ k ≤ len ∧ k ≤ 60 ∧ Hid (Two wr b g b' g' n (stFs n (l.take k))) ∧ Mod (fun _ => False) w wr) (fun v _ => 60 - (intOf v).toNat)
  case atStart => exact ⟨0, rfl, Nat.zero_le _, by omega, TWO, m12⟩
  case round =>
    obtain ⟨k, rfl, hk, hk6, htw, hm⟩ := hrel
    by_cases hlt : k < len ∧ k < 60
    · obtain ⟨hlt1, hlt2⟩ := hlt
      obtain ⟨t, ht⟩ : ∃ t, l[k]? = some t := ⟨_, List.getElem?_eq_getElem (by rw [HL.out.1]; exact hlt1)⟩
      have hs := stFs_snoc n l k t ht
      obtain ⟨x, rfl, c0, c1, c2, c3⟩ := (HL.out.new hm).2.2 k t ht
      have hT2 := Lib.hid (HT.out.mod hm (fun h => h))
      have HS := Lib.hid hs
      have hlt1' : (k : Int) < len := by omega
      clear hs ht
      go_wp2_with fail
      refine (stepAny t b g b' g' n _ _ htw.out hT2.out).mono ?_; rintro e w3 ⟨rfl, t3, m3⟩
      rw [← HS.out] at t3
      have T3 := Lib.hid t3
      have m4 := hm.new m3 (by intro i hi; rcases hi with rfl | rfl <;> omega)
      clear t3 m3
      go_wp2_with fail
      exact ⟨⟨k + 1, by go_num, by omega, by omega, T3, m4⟩, by simp [intOf]; omega⟩
    · have hx : stFs n (l.take k) = stFs n (l.take 60) := by
        by_cases e : k = 60
        · rw [e]
        · rw [List.take_of_length_le (by rw [HL.out.1]; omega), List.take_of_length_le (by rw [HL.out.1]; omega)]
      have HX := Lib.hid hx
      have hend : (k : Int) < len → ¬ (k : Int) < 60 := by omega
      clear hx
      by_cases h6 : (k : Int) < len
      · have h7 : ¬ (k : Int) < 60 := hend h6
        clear hend
        go_wp2_with fail
        go_ret3
        exact ⟨b, g, b', g', rfl, by rw [← HX.out]; exact htw.out, hm, HNEW.out⟩
      · clear hend
        go_wp2_with fail
        go_ret3
        exact ⟨b, g, b', g', rfl, by rw [← HX.out]; exact htw.out, hm, HNEW.out⟩
end Go.Proofs.YtdfdkacnejichaaDoor
