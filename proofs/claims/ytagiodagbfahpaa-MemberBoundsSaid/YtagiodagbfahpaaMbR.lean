/- Package member: Probe, for any seed; no condition. -/
import Derived.Test.YtagiodagbfahpaaMbQ
namespace Go.Proofs.Ytagiodagbfahpaa
open Go Go.RowKit

/-- What Probe answers. -/
def probeR (seed : Int) (ks : List (Int × Rc)) : Int × Bool :=
  if (aliveL ks).length = 0 then (0, false) else ((keysL (aliveL ks)).getD (blw seed (aliveL ks).length).toNat 0, true)
theorem probe_nat (seed : Int) {n : Nat} (h : 0 < n) : ∃ k : Nat, blw seed (n : Int) = (k : Int) ∧ k < n := by
  have h1 := blw_lt seed (n := (n : Int)) (by omega)
  have h2 := blw_nonneg seed (n : Int)
  exact ⟨(blw seed (n : Int)).toNat, by omega, by omega⟩
theorem probe_mem {seed : Int} {ks : List (Int × Rc)} {n : Int} (h : probeR seed ks = (n, true)) : ∃ r, (n, r) ∈ ks ∧ r.u ≠ 3 := by
  unfold probeR at h
  split at h
  · cases h
  · rename_i h0
    obtain ⟨k, hk, hkl⟩ := probe_nat seed (n := (aliveL ks).length) (by omega)
    rw [hk, Int.toNat_natCast] at h
    have hl : k < (keysL (aliveL ks)).length := by simpa [keysL] using hkl
    rw [List.getD_eq_getElem?_getD, List.getElem?_eq_getElem hl] at h
    simp only [Option.getD_some, Prod.mk.injEq, and_true] at h
    have hm := List.getElem_mem hl
    rw [h] at hm
    obtain ⟨q, hq, rfl⟩ := List.mem_map.1 hm
    obtain ⟨h1, h2⟩ := List.mem_filter.1 hq
    exact ⟨q.2, h1, by simpa using h2⟩

set_option maxRecDepth 100000 in
set_option maxHeartbeats 2000000 in
theorem memProbe (seed : Int) (b M : Nat) (S : Int × Rc) (most : Int) (ks : List (Int × Rc)) (w : World) (h : VW w b M S most ks) (hlen : ks.length ≤ 1000) :
    Calls Try.prog 25 #[.pointer (some ⟨b, 0, none⟩), .int .u64 seed] w fun e w' => e = .returned (.tuple #[.int .i64 (probeR seed ks).1, .bool (probeR seed ks).2]) ∧ Mod (fun _ => False) w w' := by
  have HID := Lib.hid (memIds b M S most ks w h hlen)
  have hal : (aliveL ks).length ≤ 1000 := by have : (aliveL ks).length ≤ ks.length := List.length_filter_le _ _; omega
  obtain ⟨p, hp⟩ : ∃ p, p = probeR seed ks := ⟨_, rfl⟩
  obtain ⟨zs, hzs⟩ : ∃ zs, zs = keysL (aliveL ks) := ⟨_, rfl⟩
  obtain ⟨n, hn⟩ : ∃ n, n = (aliveL ks).length := ⟨_, rfl⟩
  have hzl : zs.length = n := by rw [hzs, hn]; simp [keysL]
  rw [← hp]
  unfold probeR at hp
  rw [← hn, ← hzs] at HID hp
  rw [← hn] at hal
  have HZL := Lib.hid hzl
  have HP := Lib.hid hp
  clear h hzs hn hp hzl
  go_enter Try.func25, Try.ntmps25
  go_wp2_with fail
  refine HID.out.mono ?_; rintro e w1 ⟨⟨v, rfl, o⟩, m1⟩
  have M1 := Lib.hid m1
  have O1 := Lib.hid o
  obtain ⟨a, cap, rfl, hcap, he, hxb⟩ := o.els
  have HE := Lib.hid he
  clear o m1 he HID
  by_cases h0 : n = 0
  · subst h0
    have hp := HP.out
    rw [if_pos rfl] at hp
    subst hp
    go_wp2_with fail
    go_ret2
    exact ⟨rfl, M1.out⟩
  · have hp := HP.out
    rw [if_neg h0] at hp
    obtain ⟨k, hk, hkn⟩ := probe_nat seed (n := n) (by omega)
    obtain ⟨x, hx⟩ : ∃ x, zs[k]? = some x := ⟨_, List.getElem?_eq_getElem (by rw [HZL.out]; exact hkn)⟩
    rw [hk, Int.toNat_natCast, List.getD_eq_getElem?_getD, hx] at hp
    subst hp
    have hn0 : ((n : Int) == 0) = false := by simpa using h0
    have hwn : IntKind.u64.wrap (n : Int) = (n : Int) := by unfold IntKind.wrap; simp [IntKind.bits, IntKind.signed]; omega
    have hU : U64 (n : Int) := u64_small (by omega) (by omega)
    obtain ⟨X, rfl, c0, _⟩ := HE.out k hkn
    have d0 := c0 (.int .i64 x) (by simp [hx])
    rw [Nat.mul_one] at d0
    have hkn2 : (k : Int) < n := by omega
    have HK := Lib.hid hk
    have HU := Lib.hid hU
    clear c0 hx hk hU h0 HE HP
    go_wp2_with fail
    refine (drawNew seed _).mono ?_; rintro e w2 ⟨rfl, rfl⟩
    have ma := (Mod.refl (fun _ => False) w1).alloc (.cells #[.int .u64 seed] 91)
    have d1 := ma.cell d0 (fun h => h)
    have XA := Blk.new w1 #[.int .u64 seed] 91
    have HB := Lib.hid (drawBelow seed (n : Int) w1.heap.size _ (XA.cell 0) (XA.frozen 0) HU.out)
    rw [HK.out] at HB
    have HXA := Lib.hid XA
    have MA := Lib.hid (M1.out.trans ma)
    have hxl := (hxb X rfl).2
    have m2 := (Mod.refl (· = w1.heap.size) (w1.alloc (.cells #[.int .u64 seed] 91))).setCell (p := ⟨w1.heap.size, 0, none⟩) (.inl rfl) (.int .u64 (stp seed))
    have d2 := m2.cell d1 (by show ¬ (X.add k).block = w1.heap.size; rw [Addr.add_block]; omega)
    have M2 := Lib.hid (MA.out.setCell (p := ⟨w1.heap.size, 0, none⟩) (.inr (by have := M1.out.size; exact this)) (.int .u64 (stp seed)))
    clear XA ma d0 d1 m2 hxl hxb M1 O1
    go_wp2_with fail
    refine HB.out.mono ?_; rintro e w2 ⟨rfl, hw2⟩
    rw [hw2] at d2 M2
    clear hw2 HB HXA MA
    go_wp2_with fail
    go_ret2
    exact ⟨rfl, M2.out⟩
end Go.Proofs.Ytagiodagbfahpaa
