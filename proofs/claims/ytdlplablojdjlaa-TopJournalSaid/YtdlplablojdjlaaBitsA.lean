/- What package bits does, as contracts over what a set's places are: New, Fill, Put, mask; no condition. -/
import Derived.Test.YtdlplablojdjlaaRows
import Derived.Test.YtdlplablojdjlaaShelf
import Derived.Test.YtdlplablojdjlaaKit
import Derived.Test.YtdlplablojdjlaaBitsM
import Derived.WalkKit
import Derived.WalkSpells
import Derived.WalkLawsBesides
import Derived.Lib.Hide
import Derived.Laws.MakeOwn
namespace Go.Proofs.Ytdlplablojdjlaa
open Go Go.RowKit

/-- A set's cells at block b, its words at block g: n places, of which those of f are ones. -/
structure BRaw (w : World) (b g n : Nat) (f : Nat → Bool) : Prop where
  head : ∃ c, Blk w b #[.int .i64 n, .slice (some ⟨g, 0, none⟩) ((n + 63) / 64) c] 52
  ne : g ≠ b
  words : ∃ cs : Array Value, Blk w g cs 68 ∧ ∀ k, k < (n + 63) / 64 → cs[k]? = some (.int .u64 (wd f k))
  small : n ≤ 65536
/-- .. with no ones behind the last place. -/
structure BSet (w : World) (b g n : Nat) (f : Nat → Bool) : Prop extends BRaw w b g n f where
  out : ∀ i, n ≤ i → f i = false
theorem BRaw.lt {w : World} {b g n : Nat} {f : Nat → Bool} (h : BRaw w b g n f) : b < w.heap.size ∧ g < w.heap.size := by
  obtain ⟨c, hc⟩ := h.head
  obtain ⟨cs, hcs, _⟩ := h.words
  exact ⟨hc.lt, hcs.lt⟩
theorem BRaw.mod {S : Nat → Prop} {w w' : World} {b g n : Nat} {f : Nat → Bool} (h : BRaw w b g n f) (hm : Mod S w w') (hb : ¬ S b) (hg : ¬ S g) : BRaw w' b g n f := by
  obtain ⟨c, hc⟩ := h.head
  obtain ⟨cs, hcs, hk⟩ := h.words
  exact ⟨⟨c, hc.mod hm hb⟩, h.ne, ⟨cs, hcs.mod hm hg, hk⟩, h.small⟩
theorem BSet.mod {S : Nat → Prop} {w w' : World} {b g n : Nat} {f : Nat → Bool} (h : BSet w b g n f) (hm : Mod S w w') (hb : ¬ S b) (hg : ¬ S g) : BSet w' b g n f := ⟨h.toBRaw.mod hm hb hg, h.out⟩
theorem BRaw.drewN {w : World} {b g n : Nat} {f : Nat → Bool} (h : BRaw w b g n f) (k : Nat) : BRaw (w.drewN k) b g n f := ⟨h.head, h.ne, h.words, h.small⟩
theorem BSet.drewN {w : World} {b g n : Nat} {f : Nat → Bool} (h : BSet w b g n f) (k : Nat) : BSet (w.drewN k) b g n f := ⟨h.toBRaw.drewN k, h.out⟩
theorem BSet.alloc {w : World} {b g n : Nat} {f : Nat → Bool} (h : BSet w b g n f) (o : Obj) : BSet (w.alloc o) b g n f :=
  h.mod (S := fun _ => False) ((Mod.refl _ _).alloc o) (fun h => h) (fun h => h)
theorem BRaw.put {w : World} {b g n : Nat} {f : Nat → Bool} (h : BRaw w b g n f) (q : Nat) (v : Value) (f' : Nat → Bool) (hv : v = .int .u64 (wd f' q)) (hne : ∀ k, k ≠ q → wd f' k = wd f k) :
    BRaw (w.setCell ⟨g, q, none⟩ v) b g n f' := by
  obtain ⟨c, hc⟩ := h.head
  obtain ⟨cs, hcs, hk⟩ := h.words
  refine ⟨⟨c, hc.setOther h.ne _⟩, h.ne, ⟨_, hcs.set q v, fun k hlt => ?_⟩, h.small⟩
  have h0 := hk k hlt
  have h1 := (Array.getElem?_eq_some_iff.1 h0).1
  by_cases e : k = q
  · subst e
    rw [Array.getElem?_setIfInBounds_self_of_lt h1, hv]
  · rw [Array.getElem?_setIfInBounds_ne (Ne.symm e), h0, hne k e]
theorem BSet.put {w : World} {b g n : Nat} {f : Nat → Bool} (h : BSet w b g n f) (q : Nat) (v : Value) (f' : Nat → Bool) (hv : v = .int .u64 (wd f' q)) (hne : ∀ k, k ≠ q → wd f' k = wd f k) (hout : ∀ i, n ≤ i → f' i = false) :
    BSet (w.setCell ⟨g, q, none⟩ v) b g n f' := ⟨h.toBRaw.put q v f' hv hne, hout⟩
theorem BRaw.n0 {w : World} {b g n : Nat} {f : Nat → Bool} (h : BRaw w b g n f) : w.cell? ⟨b, 0, none⟩ = some (.int .i64 n) := by
  obtain ⟨c, hc⟩ := h.head
  rw [hc.cell]; rfl
theorem BRaw.s1 {w : World} {b g n : Nat} {f : Nat → Bool} (h : BRaw w b g n f) : ∃ c, w.cell? ⟨b, 1, none⟩ = some (.slice (some ⟨g, 0, none⟩) ((n + 63) / 64) c) := by
  obtain ⟨c, hc⟩ := h.head
  exact ⟨c, by rw [hc.cell]; rfl⟩
theorem BRaw.word {w : World} {b g n : Nat} {f : Nat → Bool} (h : BRaw w b g n f) {k : Nat} (hk : k < (n + 63) / 64) : w.cell? ⟨g, k, none⟩ = some (.int .u64 (wd f k)) ∧ w.frozen? ⟨g, k, none⟩ = false := by
  obtain ⟨cs, hcs, h1⟩ := h.words
  exact ⟨by rw [hcs.cell]; exact h1 k hk, hcs.frozen k⟩
/-- A list of bytes, as a slice holds them. -/
abbrev byts (bs : List Nat) : List Value := bs.map fun (z : Nat) => .int .u8 (z : Int)
theorem Sl.byt {w : World} {v : Value} {n : Nat} {bs : List Nat} (h : Sl w v 1 n (byts bs)) (k : Nat) (hk : k < n) : ∃ x c, v = .slice (some x) n c ∧ w.cell? (x.add k) = some (.int .u8 (bs.getD k 0 : Nat)) := by
  rcases h with ⟨_, h2, _⟩ | ⟨x, c, rfl, h2, h3⟩
  · omega
  · have hl : bs.length = n := by simpa using h2
    exact ⟨x, c, rfl, h3 k _ (by rw [List.getElem?_map, List.getElem?_eq_getElem (by omega), List.getD_eq_getElem?_getD, List.getElem?_eq_getElem (by omega)]; rfl)⟩

theorem made_get (z : Array Value) (m k : Nat) (hz : z.size = 1) (hk : k < m) : (madeCells z m)[k]? = z[0]? := by
  unfold madeCells
  simp [hz, hk, Nat.mod_one]

theorem infoU64 : (Try.prog.info? 68).map (fun i => (i.zero, i.size, i.bytes)) = some (some (.int .u64 0), 1, 8) := by kernel_rfl
set_option maxHeartbeats 400000 in
theorem bitsNewBad (n : Int) (w : World) (h : n < 0 ∨ 65536 < n) :
    Calls Try.prog 5 #[.int .i64 n] w fun e w' => e = .returned (.tuple #[.pointer none, .int .i64 1]) ∧ w = w' := by
  go_enter Try.func5, Try.ntmps5
  rcases h with h | h
  · go_wp2
    go_ret2
    exact ⟨rfl, rfl⟩
  · have h2 : ¬ n < 0 := by omega
    go_wp2
    go_ret2
    exact ⟨rfl, rfl⟩

set_option maxHeartbeats 400000 in
theorem bitsNew (n : Nat) (w : World) (h : n ≤ 65536) :
    Calls Try.prog 5 #[.int .i64 n] w fun e w' => e = .returned (.tuple #[.pointer (some ⟨w.heap.size + 1, 0, none⟩), .int .i64 0]) ∧ BSet w' (w.heap.size + 1) w.heap.size n (fun _ => false) ∧ Mod (fun _ => False) w w' := by
  obtain ⟨i0, hi, hz0, hz1, hz2⟩ := info_parts infoU64
  have hmk := run_makeSlice (P := Try.prog) w 50 68 i0 (.int .u64 0) Try.underlying50 hi hz0 .i64 .i64 (((n : Int) + 64 - 1) / 64) (((n : Int) + 64 - 1) / 64) (by omega) (Int.le_refl _) (by rw [hz1]; omega) (by rw [hz2]; omega) (by omega)
  rw [hz1] at hmk
  have hm : (((n : Int) + 64 - 1) / 64).toNat = (n + 63) / 64 := by omega
  rw [hm] at hmk
  have h1 : ¬ (n : Int) < 0 := by omega
  have h2 : ¬ (65536 : Int) < n := by omega
  clear hi hz0 hz1 hz2 hm
  go_enter Try.func5, Try.ntmps5
  go_wp2_with fail
  go_ret2
  refine ⟨rfl, ⟨⟨⟨_, by have := Blk.new (w.alloc (.cells (madeCells #[Value.int .u64 0] ((n + 63) / 64)) 68)) #[.int .i64 n, .slice (some ⟨w.heap.size, 0, none⟩) ((n + 63) / 64) ((n + 63) / 64)] 52; simpa using this⟩, by omega, ⟨_, (Blk.new w _ _).alloc _, fun k hk => ?_⟩, h⟩, fun _ _ => rfl⟩, ((Mod.refl _ w).alloc _).alloc _⟩
  rw [made_get _ _ _ rfl hk, wd_false]
  rfl

set_option maxHeartbeats 400000 in
theorem bitsFillBad (b g n : Nat) (f : Nat → Bool) (i j : Int) (one : Bool) (w : World) (h : BSet w b g n f) (hbad : i < 0 ∨ j < i ∨ n < j) :
    Calls Try.prog 22 #[.pointer (some ⟨b, 0, none⟩), .int .i64 i, .int .i64 j, .bool one] w fun e w' => e = .returned (.int .i64 1) ∧ w = w' := by
  have c0 := h.n0
  clear h
  go_enter Try.func22, Try.ntmps22
  by_cases h1 : i < 0
  · go_wp2
    go_ret
    exact ⟨rfl, rfl⟩
  · by_cases h2 : j < i
    · go_wp2
      go_ret
      exact ⟨rfl, rfl⟩
    · have h3 : (n : Int) < j := by omega
      go_wp2
      go_ret
      exact ⟨rfl, rfl⟩

set_option maxHeartbeats 1000000 in
theorem bitsFill (b g n : Nat) (f : Nat → Bool) (i j : Nat) (one : Bool) (w : World) (h : BSet w b g n f) (h1 : i ≤ j) (h2 : j ≤ n) :
    Calls Try.prog 22 #[.pointer (some ⟨b, 0, none⟩), .int .i64 i, .int .i64 j, .bool one] w fun e w' => e = .returned (.int .i64 0) ∧ BSet w' b g n (fil f i j one) ∧ Mod (· = g) w w' := by
  have c0 := h.n0
  have hn := h.small
  have h3 : ¬ (i : Int) < 0 := by omega
  have h4 : ¬ (j : Int) < i := by omega
  have h5 : ¬ (n : Int) < j := by omega
  have H := Lib.hid h
  clear h
  go_enter Try.func22, Try.ntmps22
  go_wp2_with fail
  go_loopw [1] (fun v wr => ∃ k : Nat, v = .int .i64 k ∧ i ≤ k ∧ k ≤ j ∧ Hid (BSet wr b g n (fil f i k one)) ∧ Mod (· = g) w wr) (fun v _ => j - (intOf v).toNat)
  case atStart => exact ⟨i, rfl, Nat.le_refl _, h1, by rw [fil_self]; exact H, Mod.refl _ _⟩
  case round =>
    obtain ⟨k, rfl, hik, hkj, hs, hm⟩ := hrel
    by_cases hl : (k : Int) < j
    · obtain ⟨q, r, hq, hr64⟩ : ∃ q r : Nat, k = 64 * q + r ∧ r < 64 := ⟨k / 64, k % 64, by omega, by omega⟩
      obtain ⟨m, hmm⟩ : ∃ m, m = (n + 63) / 64 := ⟨_, rfl⟩
      have hqm : q < (n + 63) / 64 := by omega
      obtain ⟨d1, d2⟩ := hs.out.word hqm
      have d0 := hs.out.n0
      obtain ⟨c, d3⟩ := hs.out.s1
      rw [← hmm] at d3
      have hqq : (k : Int) / 64 = q := by omega
      have hrr : k % 64 = r := by omega
      have hqm2 : q < m := by omega
      have hhs : Hid (∀ e v, k ≤ e → e ≤ j → e ≤ 64 * q + 64 → v = (bits (if one then .or else .andNot) .u64 (wd (fil f i k one) q : Int) (seg r (e - 64 * q) : Int)) → BSet (wr.setCell ⟨g, q, none⟩ (.int .u64 v)) b g n (fil f i e one)) := by
        intro e v he1 he2 he3 hv
        have hsg : fil f i e one = fil (fil f i k one) (64 * q + r) (64 * q + (e - 64 * q)) one := by
          rw [← hq, show 64 * q + (e - 64 * q) = e by omega, fil_fil _ _ _ _ _ hik he1]
        rw [hsg]
        refine hs.out.put q _ _ ?_ (fun x hx => wd_fil_out _ _ _ _ _ _ hx (by omega)) (fun x hx => ?_)
        · rw [hv]
          cases one
          · rw [← wd_fil_not]; rfl
          · rw [← wd_fil_or]; rfl
        · rw [← hsg]
          unfold fil
          rw [if_neg (by omega)]
          have := hs.out.out x hx
          unfold fil at this
          rw [if_neg (by omega)] at this
          exact this
      have hb1 : 64 - (64 * q + 64 - k) < 64 := by omega
      generalize hW : wd (fil f i k one) q = W at d1 hhs
      have HQ := Lib.hid hq
      clear hmm hW hq hqm hb1
      have he : ((q : Int) + 1) * 64 < j ∨ ¬ (((q : Int) + 1) * 64 < j) := Classical.em _
      cases one
      · rcases he with he | he
        · go_wp2_with fail
          refine ⟨⟨64 * q + 64, by congr 1; omega, by omega, by omega, ?_, hm.setCell (.inl rfl) _⟩, by simp [intOf]; omega⟩
          exact hhs.out (64 * q + 64) _ (by omega) (by omega) (by omega) (congrArg (bits .andNot .u64 _) (seg_at q k r _ _ HQ.out (by omega) (by omega) (by omega)))
        · go_wp2_with fail
          refine ⟨⟨j, by first | rfl | (congr 1; omega), h1, Nat.le_refl _, ?_, hm.setCell (.inl rfl) _⟩, by simp [intOf]; omega⟩
          exact hhs.out j _ (by omega) (by omega) (by omega) (congrArg (bits .andNot .u64 _) (seg_at q k r _ _ HQ.out (by omega) (by omega) (by omega)))
      · rcases he with he | he
        · go_wp2_with fail
          refine ⟨⟨64 * q + 64, by congr 1; omega, by omega, by omega, ?_, hm.setCell (.inl rfl) _⟩, by simp [intOf]; omega⟩
          exact hhs.out (64 * q + 64) _ (by omega) (by omega) (by omega) (congrArg (bits .or .u64 _) (seg_at q k r _ _ HQ.out (by omega) (by omega) (by omega)))
        · go_wp2_with fail
          refine ⟨⟨j, by first | rfl | (congr 1; omega), h1, Nat.le_refl _, ?_, hm.setCell (.inl rfl) _⟩, by simp [intOf]; omega⟩
          exact hhs.out j _ (by omega) (by omega) (by omega) (congrArg (bits .or .u64 _) (seg_at q k r _ _ HQ.out (by omega) (by omega) (by omega)))
    · have hkj2 : k = j := by omega
      subst hkj2
      go_wp2_with fail
      go_ret
      exact ⟨rfl, hs.out, hm⟩

set_option maxHeartbeats 400000 in
theorem bitsPutBad (b g n : Nat) (f : Nat → Bool) (i : Int) (one : Bool) (w : World) (h : BSet w b g n f) (hbad : i < 0 ∨ n ≤ i) :
    Calls Try.prog 8 #[.pointer (some ⟨b, 0, none⟩), .int .i64 i, .bool one] w fun e w' => e = .returned (.int .i64 1) ∧ w = w' := by
  have c0 := h.n0
  clear h
  go_enter Try.func8, Try.ntmps8
  by_cases h1 : i < 0
  · go_wp2
    go_ret
    exact ⟨rfl, rfl⟩
  · have h3 : (n : Int) ≤ i := by omega
    go_wp2
    go_ret
    exact ⟨rfl, rfl⟩

set_option maxHeartbeats 400000 in
theorem bitsPut (b g n : Nat) (f : Nat → Bool) (i : Nat) (one : Bool) (w : World) (h : BSet w b g n f) (hi : i < n) :
    Calls Try.prog 8 #[.pointer (some ⟨b, 0, none⟩), .int .i64 i, .bool one] w fun e w' => e = .returned (.int .i64 0) ∧ BSet w' b g n (fil f i (i + 1) one) ∧ Mod (· = g) w w' := by
  have c0 := h.n0
  have hn := h.small
  have H := Lib.hid h
  have h1 : ¬ (i : Int) < 0 := by omega
  have h3 : ¬ (n : Int) ≤ i := by omega
  clear h
  go_enter Try.func8, Try.ntmps8
  go_wp2_with fail
  refine (bitsFill b g n f i (i + 1) one _ H.out (by omega) (by omega)).mono ?_; rintro e w' ⟨rfl, h1, h2⟩
  go_wp2_with fail
  go_ret
  exact ⟨rfl, h1, h2⟩

set_option maxHeartbeats 400000 in
theorem bitsMask (b g n : Nat) (f : Nat → Bool) (w : World) (h : BRaw w b g n f) :
    Calls Try.prog 34 #[.pointer (some ⟨b, 0, none⟩)] w fun e w' => e = .returned (.int .u64 (msk n)) ∧ w = w' := by
  have c0 := h.n0
  clear h
  go_enter Try.func34, Try.ntmps34
  go_wp2_with fail
  go_ret
  exact ⟨congrArg (fun x => Ending.returned (.int .u64 x)) (msk_eq n), rfl⟩

set_option maxHeartbeats 400000 in
theorem bitsLen (b g n : Nat) (f : Nat → Bool) (w : World) (h : BSet w b g n f) :
    Calls Try.prog 6 #[.pointer (some ⟨b, 0, none⟩)] w fun e w' => e = .returned (.int .i64 n) ∧ w = w' := by
  have c0 := h.n0
  clear h
  go_enter Try.func6, Try.ntmps6
  go_wp2_with fail
  go_ret
  exact ⟨rfl, rfl⟩
end Go.Proofs.Ytdlplablojdjlaa
