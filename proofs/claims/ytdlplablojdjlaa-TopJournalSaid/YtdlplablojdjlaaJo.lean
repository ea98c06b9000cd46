/- Package slices: Grow of nothing, Concat of three; package journal: all; no condition. -/
import Derived.Test.YtdlplablojdjlaaJn
import Derived.Lib.AppendZeros
namespace Go.Proofs.Ytdlplablojdjlaa
open Go Go.RowKit

theorem owns_grown (w : World) (base cap : Nat) (h : base ≤ w.heap.size) (cs : Array Value) (hc : cs.size = cap) (hm : cap ≤ maxLen) : OB (w.alloc (.cells cs 5)) base (.slice (some ⟨w.heap.size, 0, none⟩) 0 cap) [] :=
  ⟨rfl, .inr ⟨w.heap.size, cap, cs, rfl, h, heap_alloc_new w _, Nat.zero_le _, hm, by simpa using hc, by simp⟩⟩
set_option maxRecDepth 100000 in
set_option maxHeartbeats 1000000 in
theorem jGrow (n : Nat) (w : World) (h0 : 0 < n) (h1 : n ≤ 2097152) :
    Calls Try.prog 63 #[.slice none 0 0, .int .i64 n] w fun e w' => ∃ v, e = .returned v ∧ OB w' w.heap.size v [] ∧ Mod (fun _ => False) w w' := by
  obtain ⟨i0, hi, hz0, hz1, hz2⟩ := info_parts infoU8'
  have hr := fun ty => Lib.run_append_nil_zeros (P := Try.prog) w 37 3 ty 5 i0 (.int .u8 0) .i64 .i64 Try.underlying37 Try.underlying3 hi hz0 n h0 (by rw [hz1]; decide) (by omega) (by rw [hz2]; omega)
  have hge := grownCap_ge w n 0 5
  have hcm : grownCap w n 0 5 ≤ maxLen := grownCap_le_maxLen w n 0 5 (by unfold maxLen; omega)
  obtain ⟨cp, hcp⟩ : ∃ c, c = grownCap w n 0 5 := ⟨_, rfl⟩
  rw [← hcp] at hge hcm hr
  obtain ⟨cs, hcs⟩ : ∃ cs, cs = Builtin.zeroCells (Value.int .u8 0).cells n ++ Builtin.zeroCells (Value.int .u8 0).cells (cp - n) := ⟨_, rfl⟩
  have hsz : cs.size = cp := by rw [hcs, Array.size_append, size_zeroCells, size_zeroCells]; simp [Value.cells]; omega
  rw [← hcs] at hr
  have ma := ((Mod.refl (fun _ => False) w).drew).alloc (.cells cs 5)
  have ho := owns_grown w.drew w.heap.size cp (Nat.le_refl _) cs hsz hcm
  have HO := Lib.hid (And.intro ho ma)
  obtain ⟨w2, hw2⟩ : ∃ w2, w2 = w.drew.alloc (.cells cs 5) := ⟨_, rfl⟩
  rw [← hw2] at hr HO
  have g1 : ¬ ((n : Int) < 0) := by omega
  have g2 : (0 : Int) < n := by omega
  have g3 : (0 : Int) ≤ cp := by omega
  have g4 : IntKind.i64.wrap (n : Int) = n := wrapI (by omega) (by omega)
  clear hi hz0 hz1 hz2 hcp hcs hsz ma ho hw2 h0 h1
  go_enter Try.func63, Try.ntmps63
  go_wp2_with (at_builtin; refine Lib.wpList_append_run _ rfl _ _ _ _ rfl _ _ rfl rfl _ _ (hr _) ?_)
  go_ret
  exact ⟨_, rfl, HO.out.1, HO.out.2⟩
theorem flat_take {bss : List (List Nat)} {k : Nat} {b : List Nat} (h : bss[k]? = some b) : (bss.take (k + 1)).flatten = (bss.take k).flatten ++ b := by
  rw [List.take_add_one, h]
  simp
theorem flat_le (bss : List (List Nat)) (k : Nat) : (bss.take k).flatten.length ≤ bss.flatten.length := by
  have h : bss.flatten = (bss.take k).flatten ++ (bss.drop k).flatten := by rw [← List.flatten_append, List.take_append_drop]
  rw [h, List.length_append]
  omega
set_option maxRecDepth 100000 in
set_option maxHeartbeats 1000000 in
theorem jConcat (v : Value) (vals : List Value) (bss : List (List Nat)) (w : World) (hs : Sl w v 1 bss.length vals) (hb : ∀ (k : Nat) (u : Value) (b : List Nat), vals[k]? = some u → bss[k]? = some b → BS w u b) (hn : bss.length ≤ 1000) (h0 : 0 < bss.flatten.length) (h1 : bss.flatten.length ≤ 1048576) :
    Calls Try.prog 41 #[v] w fun e w' => ∃ v', e = .returned v' ∧ OB w' w.heap.size v' bss.flatten ∧ Mod (fun _ => False) w w' := by
  have hvl : vals.length = bss.length := by have := hs.len; omega
  obtain ⟨n, hnn⟩ : ∃ n, n = bss.length := ⟨_, rfl⟩
  obtain ⟨X, c, rfl⟩ : ∃ X c, v = .slice (some X) n c := by
    rcases hs with ⟨rfl, h2, _⟩ | ⟨x, c, rfl, _, _⟩
    · have : bss = [] := List.length_eq_zero_iff.1 h2
      rw [this] at h0
      cases h0
    · exact ⟨x, c, by rw [hnn]⟩
  have hcell : ∀ (k : Nat) (w' : World), Mod (fun _ => False) w w' → k < n → ∃ u b, w'.cell? (X.add k) = some u ∧ bss[k]? = some b ∧ BS w' u b ∧ ∃ a c, u = .slice a b.length c := fun k w' hm hk => by
    have hk2 : k < vals.length := by omega
    have e1 : vals[k]? = some (vals[k]) := List.getElem?_eq_getElem hk2
    have hk3 : k < bss.length := by omega
    have e2 : bss[k]? = some (bss[k]) := List.getElem?_eq_getElem hk3
    have hbs := hb k _ _ e1 e2
    refine ⟨_, _, ?_, e2, hbs.new hm, ?_⟩
    · rcases hs with ⟨h, _⟩ | ⟨x, c', h, _, h3⟩
      · cases h
      · cases h
        exact hm.cell (h3 k _ e1) (fun h => h)
    · rcases hbs.sl with ⟨e, h2, _⟩ | ⟨x, d, e, _, _⟩
      · exact ⟨none, 0, by rw [e, h2]⟩
      · exact ⟨some x, d, e⟩
  have HC := Lib.hid hcell
  obtain ⟨T, hT⟩ : ∃ T, T = bss.flatten.length := ⟨_, rfl⟩
  have HT := Lib.hid hT
  have HN := Lib.hid hnn
  have HLE := Lib.hid (fun k => by have := flat_le bss k; rw [← hT] at this; exact this)
  rw [← hnn] at hn
  rw [← hT] at h0 h1
  have g2 : ¬ ((T : Int) < 0) := by omega
  clear hs hb hvl hcell hT hnn
  go_enter Try.func41, Try.ntmps41
  go_wp2_with fail
  go_loopw [3, 11] (fun s i wr => ∃ k : Nat, i = .int .i64 k ∧ k ≤ n ∧ s = .int .i64 ((bss.take k).flatten.length : Nat) ∧ w = wr) (fun _ i _ => n - (intOf i).toNat)
  case atStart => exact ⟨0, rfl, Nat.zero_le _, rfl, rfl⟩
  case round =>
    obtain ⟨k, rfl, hk, rfl, rfl⟩ := hrel
    by_cases hkn : k < n
    · have hki : (k : Int) < n := by omega
      obtain ⟨u, b, hc, e2, _, a, c2, rfl⟩ := HC.out k w (Mod.refl _ _) hkn
      have hft := congrArg List.length (flat_take e2)
      rw [List.length_append] at hft
      have hle := HLE.out (k + 1)
      obtain ⟨A, hA⟩ : ∃ A, A = (bss.take k).flatten.length := ⟨_, rfl⟩
      obtain ⟨Bn, hB⟩ : ∃ B, B = b.length := ⟨_, rfl⟩
      rw [← hA, ← hB] at hft
      rw [← hA]
      rw [← hB] at hc
      have HFT := Lib.hid hft
      have hw : IntKind.i64.wrap ((A : Int) + Bn) = (A : Int) + Bn := wrapI (by omega) (by omega)
      have hneg : ¬ ((A : Int) + Bn < 0) := by omega
      clear hft hA hB e2 hle
      go_wp2_with fail
      refine ⟨⟨k + 1, by go_num, by omega, ?_, by first | rfl | trivial⟩, by simp [intOf]; omega⟩
      rw [HFT.out]
      go_num
    · have hki : ¬ ((k : Int) < n) := by omega
      have hkk : k = bss.length := by have := HN.out; omega
      have hall : (bss.take k).flatten.length = T := by rw [hkk, List.take_length, HT.out]
      rw [hall]
      clear hall hkk
      have HG := Lib.hid (jGrow T w h0 (by omega))
      go_wp2_with fail
      refine HG.out.mono ?_; rintro e w1 ⟨v1, rfl, o1, m1⟩
      have O1 := Lib.hid o1
      have M1 := Lib.hid m1
      clear o1 m1
      clear HG
      go_wp2_with fail
      go_loopw [6, 27] (fun s i wr => ∃ k : Nat, i = .int .i64 k ∧ k ≤ n ∧ Hid (OB wr w.heap.size s (bss.take k).flatten) ∧ Hid (Mod (fun _ => False) w wr)) (fun _ i _ => n - (intOf i).toNat)
      case atStart => exact ⟨0, rfl, Nat.zero_le _, O1.out, M1.out⟩
      case round =>
        obtain ⟨k, rfl, hk, ho, hm⟩ := hrel
        by_cases hkn : k < n
        · have hki : (k : Int) < n := by omega
          obtain ⟨u, b, hc, e2, hbs, a, c2, rfl⟩ := HC.out k wr hm.out hkn
          have hft := flat_take e2
          have hle := HLE.out (k + 1)
          rw [hft, List.length_append] at hle
          have HFT := Lib.hid hft
          have HBS := Lib.hid hbs
          clear hft e2 hbs
          go_wp2_with (at_builtin; refine app1 (base := w.heap.size) rfl (.tmp 31) (.tmp 32) 37 5 1 rfl Try.underlying37 infoU8' rfl (by decide) _ _ _ _ _ _ hm.out.size ho.out rfl rfl HBS.out.sl (byts_one _) (by decide) (by omega) ?_; intro v' w3 g1 g2 g3; have G1 := Lib.hid g1; have G2 := Lib.hid g2; clear g1 g2 g3)
          refine ⟨⟨k + 1, by go_num, by omega, ?_, ?_⟩, by simp [intOf]; omega⟩
          · have h := G1.out
            rw [← byts_append, ← List.length_append, ← HFT.out] at h
            exact h
          · exact hm.out.new G2.out fun i e => (ho.out.lt i e).1
        · have hki : ¬ ((k : Int) < n) := by omega
          have hkk : k = bss.length := by have := HN.out; omega
          have hall := ho.out
          rw [hkk, List.take_length] at hall
          have HA := Lib.hid hall
          clear hall hkk
          go_wp2_with fail
          go_ret
          exact ⟨_, rfl, HA.out, hm.out⟩
end Go.Proofs.Ytdlplablojdjlaa
