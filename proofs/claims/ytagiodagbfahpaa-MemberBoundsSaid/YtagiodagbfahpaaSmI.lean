/- The reference of member: Probe, Gossip, for any seed; no condition. -/
import Derived.Test.YtagiodagbfahpaaSmH
namespace Go.Proofs.Ytagiodagbfahpaa
open Go Go.RowKit

theorem idx_eq {α : Type} {ks : List (Int × α)} (hr : Rising ks) {i j : Nat} {x : Int} {r r' : α} (h1 : ks[i]? = some (x, r)) (h2 : ks[j]? = some (x, r')) : i = j := by
  obtain ⟨hi, e1⟩ := List.getElem?_eq_some_iff.1 h1
  obtain ⟨hj, e2⟩ := List.getElem?_eq_some_iff.1 h2
  have hp := List.pairwise_iff_getElem.1 hr
  rcases Nat.lt_trichotomy i j with h | h | h
  · have := hp i j hi hj h
    rw [e1, e2] at this
    simp at this
  · exact h
  · have := hp j i hj hi h
    rw [e1, e2] at this
    simp at this
theorem refVFindAt (id : Int) (i : Nat) (r : Rc) (b base : Nat) (S : Int × Rc) (most : Int) (ks : List (Int × Rc)) (w : World) (h : RW w b base S most ks) (hr : Rising ks) (hlen : ks.length ≤ 1000) (hi : ks[i]? = some (id, r)) :
    Calls Try.prog 41 #[.pointer (some ⟨b, 0, none⟩), .int .i64 id] w fun e w' => e = .returned (.int .i64 i) ∧ w = w' := by
  refine (refVFind id b base S most ks w h hlen).mono ?_
  rintro e w' ⟨⟨v, rfl, hv⟩, rfl⟩
  rcases hv with ⟨rfl, hn⟩ | ⟨j, r', rfl, hj⟩
  · rw [lk_of_mem hr (List.mem_of_getElem? hi)] at hn
    cases hn
  · rw [idx_eq hr hi hj]
    exact ⟨rfl, rfl⟩
theorem alive_snoc (ks : List (Int × Rc)) (q : Int × Rc) : keysL (aliveL (ks ++ [q])) = keysL (aliveL ks) ++ if q.2.u = 3 then [] else [q.1] := by
  unfold aliveL
  rw [List.filter_append, keys_append]
  congr 1
  by_cases h : q.2.u = 3
  · rw [if_pos h, List.filter_cons, if_neg (by simp [h])]; rfl
  · rw [if_neg h, List.filter_cons, if_pos (by simp [h])]; rfl

set_option maxRecDepth 100000 in
set_option maxHeartbeats 4000000 in
theorem refVProbe (seed : Int) (b base : Nat) (S : Int × Rc) (most : Int) (ks : List (Int × Rc)) (w : World) (h : RW w b base S most ks) (hlen : ks.length ≤ 1000) :
    Calls Try.prog 40 #[.pointer (some ⟨b, 0, none⟩), .int .u64 seed] w fun e w' => e = .returned (.tuple #[.int .i64 (probeR seed ks).1, .bool (probeR seed ks).2]) ∧ Mod (fun _ => False) w w' := by
  obtain ⟨a, cap, _, c3, _, he, _, _, _⟩ := h.at
  obtain ⟨p, hp⟩ : ∃ p, p = probeR seed ks := ⟨_, rfl⟩
  rw [← hp]
  unfold probeR at hp
  have HP := Lib.hid hp
  clear h hp
  go_enter Try.func40, Try.ntmps40
  go_wp2_with fail
  go_loopw [6, 7] (fun v i wr => ∃ k : Nat, i = .int .i64 k ∧ k ≤ ks.length ∧ Hid (wr.ownsRow w.heap.size 3 1 v (keysL (aliveL (ks.take k))).length (intL (keysL (aliveL (ks.take k))))) ∧ Mod (fun _ => False) w wr) (fun _ i _ => ks.length - (intOf i).toNat)
  case atStart => exact ⟨0, rfl, Nat.zero_le _, World.ownsRow_nil _ _ _ _, Mod.refl _ _⟩
  case round =>
    obtain ⟨k, rfl, hk, ho1, hm⟩ := hrel
    have k3 := hm.cell c3 (fun h => h)
    by_cases hlt : (k : Int) < ks.length
    · obtain ⟨⟨x, r⟩, hkr⟩ : ∃ q, ks[k]? = some q := ⟨_, List.getElem?_eq_getElem (by omega)⟩
      obtain ⟨X, rfl, p0, p1, p2, p3⟩ := recEl (he.out.new hm) (Nat.le_refl _) hkr
      have HT := Lib.hid (alive_snoc (ks.take k) (x, r))
      have HTK := Lib.hid (show ks.take (k + 1) = ks.take k ++ [(x, r)] by rw [List.take_add_one, hkr]; rfl)
      have hl1 : (keysL (aliveL (ks.take k))).length ≤ 1000 := by
        rw [keys_len]
        have h1 : (aliveL (ks.take k)).length ≤ (ks.take k).length := List.length_filter_le _ _
        have h2 : (ks.take k).length ≤ k := List.length_take_le _ _
        omega
      have hkl : k < ks.length := by omega
      have hk1 : ks.length - (k + 1) < ks.length - k := by omega
      clear hkr
      by_cases hu : r.u = 3
      · have hu' : (r.u != 3) = false := by simp [hu]
        have HU := Lib.hid hu
        clear hu
        go_wp2_with fail
        refine ⟨⟨k + 1, by go_num, by omega, ?_, hm⟩, by simp [intOf]; omega⟩
        show World.ownsRow _ _ _ _ _ _ _
        rw [HTK.out, HT.out, if_pos HU.out, List.append_nil]
        exact ho1.out
      · have hu' : (r.u != 3) = true := by simp [hu]
        have HU := Lib.hid hu
        clear hu
        go_wp2_with (at_builtin; refine app1 (base := w.heap.size) rfl (.tmp 27) (.tmp 36) 41 3 1 rfl Try.underlying41 infoInt rfl (by decide) _ _ _ _ 1 [.int .i64 x] (by have := hm.size; simp; omega) (ho1.out.alloc _) rfl rfl (sl_new wr #[.int .i64 x] 3) (by simp [Value.oneCell']) (by decide) (by omega) ?_; intro v' w' g1 g2 g3; have G1 := Lib.hid g1; have G2 := Lib.hid (((Mod.refl _ wr).alloc (.cells #[.int .i64 x] 3)).trans g2); clear g1 g2 g3)
        refine ⟨⟨k + 1, by go_num, by omega, ?_, hm.new G2.out (own_ge ho1.out)⟩, by simp [intOf]; omega⟩
        show World.ownsRow _ _ _ _ _ _ _
        rw [HTK.out, HT.out, if_neg HU.out, intL_append, List.length_append]
        exact G1.out
    · have hkn : k = ks.length := by omega
      have h1 := ho1.out
      rw [hkn, List.take_length] at h1
      obtain ⟨n, hn⟩ : ∃ n, n = (aliveL ks).length := ⟨_, rfl⟩
      obtain ⟨zs, hzs⟩ : ∃ zs, zs = keysL (aliveL ks) := ⟨_, rfl⟩
      have hzl : zs.length = n := by rw [hzs, hn]; simp [keysL]
      have hp := HP.out
      rw [← hn, ← hzs] at hp
      rw [← hzs, hzl] at h1
      have hal : n ≤ 1000 := by rw [hn]; have : (aliveL ks).length ≤ ks.length := List.length_filter_le _ _; omega
      obtain ⟨a, cap', rfl, hcap, he, hxb⟩ := h1.els
      have HE := Lib.hid he
      have O1 := Lib.hid h1
      have HZL := Lib.hid hzl
      have M1 := Lib.hid hm
      clear he h1 hkn hk ho1 hm hn hzs hzl HP c3
      obtain ⟨w1, hw1⟩ : ∃ w1, w1 = wr := ⟨_, rfl⟩
      rw [← hw1] at M1 O1 HE hxb k3 ⊢
      clear hw1
      by_cases h0 : n = 0
      · subst h0
        rw [if_pos rfl] at hp
        subst hp
        go_wp2_with fail
        go_ret2
        exact ⟨rfl, M1.out⟩
      · rw [if_neg h0] at hp
        obtain ⟨j, hj, hjn⟩ := probe_nat seed (n := n) (by omega)
        obtain ⟨x, hx⟩ : ∃ x, zs[j]? = some x := ⟨_, List.getElem?_eq_getElem (by rw [HZL.out]; exact hjn)⟩
        rw [hj, Int.toNat_natCast, List.getD_eq_getElem?_getD, hx] at hp
        subst hp
        have hn0 : ((n : Int) == 0) = false := by simpa using h0
        have hwn : IntKind.u64.wrap (n : Int) = (n : Int) := by unfold IntKind.wrap; simp [IntKind.bits, IntKind.signed]; omega
        have hU : U64 (n : Int) := u64_small (by omega) (by omega)
        obtain ⟨X, rfl, c0, _⟩ := HE.out j hjn
        have d0 := c0 (.int .i64 x) (by simp [hx])
        rw [Nat.mul_one] at d0
        have hkn2 : (j : Int) < n := by omega
        have ma := (Mod.refl (fun _ => False) w1).alloc (.cells #[.int .u64 seed] 97)
        have d1 := ma.cell d0 (fun h => h)
        have XA := Blk.new w1 #[.int .u64 seed] 97
        have HB := Lib.hid (refBelow seed (n : Int) w1.heap.size _ (XA.cell 0) (XA.frozen 0) hU)
        rw [hj] at HB
        have MA := Lib.hid (M1.out.trans ma)
        have hxl := (hxb X rfl).2
        have m2 := (Mod.refl (· = w1.heap.size) (w1.alloc (.cells #[.int .u64 seed] 97))).setCell (p := ⟨w1.heap.size, 0, none⟩) (.inl rfl) (.int .u64 (stp seed))
        have d2 := m2.cell d1 (by show ¬ (X.add j).block = w1.heap.size; rw [Addr.add_block]; omega)
        have M2 := Lib.hid (MA.out.setCell (p := ⟨w1.heap.size, 0, none⟩) (.inr (by have := M1.out.size; exact this)) (.int .u64 (stp seed)))
        clear c0 hx hj h0 HE XA ma d0 d1 m2 hxl hxb M1 O1 hU
        go_wp2_with fail
        refine HB.out.mono ?_; rintro e w2 ⟨rfl, hw2⟩
        rw [hw2] at d2 M2
        clear hw2 HB MA
        go_wp2_with fail
        go_ret2
        exact ⟨rfl, M2.out⟩
end Go.Proofs.Ytagiodagbfahpaa
