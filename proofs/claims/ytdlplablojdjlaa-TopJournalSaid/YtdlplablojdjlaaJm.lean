/- Package journal: found; plain: two heads and what counts; no condition. -/
import Derived.Test.YtdlplablojdjlaaJl
namespace Go.Proofs.Ytdlplablojdjlaa
open Go Go.RowKit Go.IntWalk

theorem rd_drew {P : Program} {f : FuncId} {args : Array Value} {w : World} {n : Nat} {v : Value} (h : Calls P f args (w.drewN n) fun e w' => e = .returned v ∧ ∃ m, w' = (w.drewN n).drewN m) : Calls P f args (w.drewN n) fun e w'' => e = .returned v ∧ ∃ m, w'' = w.drewN m :=
  h.mono fun _ _ ⟨he, m, hm⟩ => ⟨he, n + m, by rw [hm, World.drewN_drewN]⟩
theorem BS.bytesIn {w : World} {p : Option Addr} {n c : Nat} {bs : List Nat} (h : BS w (.slice p n c) bs) : Lib.BytesIn w p n (bs.map Int.ofNat) := by
  intro hn
  rcases h.sl with ⟨e, _⟩ | ⟨x, d, e, hl, hc⟩
  · cases e; omega
  · cases e
    refine Lib.BytesIn.of_cells (fun i hi => ?_) hn
    have hb : i < bs.length := by omega
    rw [hc i (.int .u8 (bs.getD i 0 : Nat)) (by unfold byts; rw [List.getElem?_map, List.getElem?_eq_getElem hb, List.getD_eq_getElem?_getD, List.getElem?_eq_getElem hb]; rfl)]
    rw [List.getD_eq_getElem?_getD, List.getD_eq_getElem?_getD, List.getElem?_map, List.getElem?_eq_getElem hb]
    rfl
theorem num4_b8 (n : Nat) : B8 (num4 n) := by
  intro x hx
  unfold num4 at hx
  simp at hx
  omega
theorem hd_b8 (n m : Nat) : B8 (hd n m) := by
  intro x hx
  unfold hd at hx
  simp only [List.mem_append] at hx
  rcases hx with (h | h) | (h | h) <;> exact num4_b8 _ x h
theorem len_num4 (n : Nat) : (num4 n).length = 4 := rfl
theorem len_hd (n m : Nat) : (hd n m).length = 16 := rfl
/-- A part of a slice of bytes. -/
theorem BS.cut {w : World} {X : Addr} {n c : Nat} {bs : List Nat} (h : BS w (.slice (some X) n c) bs) {k m c' : Nat} (h1 : k + m ≤ n) (hc : m ≤ c') : BS w (.slice (some (X.add k)) m c') ((bs.drop k).take m) := by
  have hn : n = bs.length := by
    rcases h.sl with ⟨e, _⟩ | ⟨x, d, e, hl, _⟩
    · cases e
    · cases e; rfl
  have h2 := h.sl
  rw [← hn] at h2
  have h3 := h2.part (lo := k) (hi := k + m) (c' := c') (by omega) h1
  rw [Nat.mul_one, Nat.mul_one, Nat.add_sub_cancel_left] at h3
  refine ⟨?_, fun x n' c'' e => by cases e; exact hc⟩
  have hl : ((bs.drop k).take m).length = m := by rw [List.length_take, List.length_drop]; omega
  rw [hl]
  unfold byts at h3 ⊢
  rw [List.map_take, List.map_drop]
  exact h3
theorem B8.of_map {xs ys : List Nat} : Lib.bytesOf (xs.map Int.ofNat) = Lib.bytesOf (ys.map Int.ofNat) ↔ xs.map (fun n => UInt8.ofNat n) = ys.map (fun n => UInt8.ofNat n) := by
  unfold Lib.bytesOf
  rw [List.map_map, List.map_map]
  exact Iff.rfl
theorem cutTl {w : World} {X : Addr} {n c a b : Nat} {R : List Nat} (h : BS w (.slice (some X) n c) (hd a b ++ R)) (hn : 16 ≤ n) (hc : n ≤ c) : BS w (.slice (some ⟨X.block, X.off + 16, none⟩) (n - 16) (c - 16)) R := by
  have := h.cut (k := 16) (m := n - 16) (c' := c - 16) (by omega) (by omega)
  rw [show X.add 16 = ⟨X.block, X.off + 16, none⟩ by simp [Addr.add]] at this
  have hl : n = (hd a b ++ R).length := by
    rcases h.sl with ⟨e, h2, _⟩ | ⟨x, d, e, _, _⟩
    · cases e
    · cases e; rfl
  rw [List.length_append, len_hd] at hl
  rw [show (hd a b ++ R).drop 16 = R by (rw [← len_hd a b]; exact List.drop_left), List.take_of_length_le (by omega)] at this
  exact this
theorem BS.lenE {w : World} {p : Option Addr} {n c : Nat} {bs : List Nat} (h : BS w (.slice p n c) bs) : n = bs.length := by
  rcases h.sl with ⟨e, h2, _⟩ | ⟨x, d, e, _, _⟩
  · cases e; exact h2.symm
  · cases e; rfl
theorem jEqSame {p p' : Option Addr} {n n' c c' : Nat} {bs : List Nat} {w : World} (h : BS w (.slice p n c) bs) (h' : BS w (.slice p' n' c') bs) :
    Calls Try.prog 40 #[.slice p n c, .slice p' n' c'] w fun e w' => e = .returned (.bool true) ∧ w' = w := by
  refine (Try.bytes_Equal_all p p' n c n' c' (bs.map Int.ofNat) (bs.map Int.ofNat) w (by rw [List.length_map]; exact h.lenE.symm) (by rw [List.length_map]; exact h'.lenE.symm) h.bytesIn h'.bytesIn).mono fun e w' hh => ⟨?_, hh.2⟩
  rw [hh.1, beq_self_eq_true]
theorem cutHd0 {w : World} {X : Addr} {n c a b : Nat} {R : List Nat} (h : BS w (.slice (some X) n c) (hd a b ++ R)) (hn : 16 ≤ n) (hc : n ≤ c) : BS w (.slice (some X) 16 c) (num4 a ++ (num4 b ++ (num4 a ++ num4 b))) := by
  have := h.cut (k := 0) (m := 16) (c' := c) (by omega) (by omega)
  rw [show X.add 0 = X by simp [Addr.add]] at this
  exact this
theorem cutHd0' {w : World} {X : Addr} {n c a b : Nat} {R : List Nat} (h : BS w (.slice (some X) n c) (hd a b ++ R)) (hn : 16 ≤ n) (hc : n ≤ c) : BS w (.slice (some ⟨X.block, X.off + 4, none⟩) 12 (c - 4)) (num4 b ++ (num4 a ++ num4 b)) := by
  have := h.cut (k := 4) (m := 12) (c' := c - 4) (by omega) (by omega)
  rw [show X.add 4 = ⟨X.block, X.off + 4, none⟩ by simp [Addr.add]] at this
  exact this
set_option maxRecDepth 100000 in
set_option maxHeartbeats 4000000 in
theorem jFound (v : Value) (a0 b0 a1 b1 : Nat) (E : List Nat) (w : World) (h : BS w v (hd a0 b0 ++ (hd a1 b1 ++ E))) (e0 : a0 % 2 = 0) (e1 : a1 % 2 = 1) (z0 : a0 = 0 → b0 = 0) (l0 : b0 ≤ E.length) (l1 : b1 ≤ E.length) (s0 : a0 ≤ 1048576) (s1 : a1 ≤ 1048576) (hE : E.length ≤ 1000000) (hL : (if a0 < a1 then b1 else b0) = E.length) :
    Calls Try.prog 20 #[v] w fun e w' => (∃ v', e = .returned v' ∧ BS w' v' E ∧ ∀ x n c, v' = .slice (some x) n c → ∃ y n c, v = .slice (some y) n c ∧ y.block = x.block) ∧ Mod (fun _ => False) w w' := by
  obtain ⟨n, hn⟩ : ∃ n, n = (hd a0 b0 ++ (hd a1 b1 ++ E)).length := ⟨_, rfl⟩
  have hn2 : n = E.length + 32 := by rw [hn, List.length_append, List.length_append, len_hd, len_hd]; omega
  obtain ⟨X, c, rfl, hnc⟩ : ∃ X c, v = .slice (some X) n c ∧ n ≤ c := by
    rcases h.sl with ⟨rfl, h2, _⟩ | ⟨x, c, rfl, _, _⟩
    · omega
    · exact ⟨x, c, by rw [hn], hn ▸ h.cap x _ c rfl⟩
  have HB := Lib.hid h
  have hni : (n : Int) ≤ c := by omega
  have hn32 : ¬ ((n : Int) < 32) := by omega
  have HN := Lib.hid hn2
  have HH := Lib.hid (And.intro (And.intro e0 e1) (And.intro z0 (And.intro l0 (And.intro l1 (And.intro s0 (And.intro s1 (And.intro hE hL)))))))
  have hnb : (n : Int) ≤ 2000000 := by omega
  clear h hn hn2 e0 e1 z0 l0 l1 s0 s1 hE hL
  go_enter Try.func20, Try.ntmps20
  go_wp2_with fail
  go_loopw [3, 4, 12] (fun la le k wr => Hid (Mod (fun _ => False) w wr) ∧ ((k = .int .i64 0 ∧ la = .int .i64 0 ∧ le = .int .i64 0) ∨ (k = .int .i64 1 ∧ la = .int .i64 a0 ∧ le = .int .i64 b0) ∨ (k = .int .i64 2 ∧ le = .int .i64 E.length))) (fun _ _ k _ => 2 - (intOf k).toNat)
  case atStart => exact ⟨Mod.refl _ _, .inl ⟨rfl, rfl, rfl⟩⟩
  case round =>
    obtain ⟨hm, ⟨rfl, rfl, rfl⟩ | ⟨rfl, rfl, rfl⟩ | ⟨rfl, rfl⟩⟩ := hrel
    · have HB1 := Lib.hid (HB.out.new hm.out)
      have h0 := HH.out
      have HT := Lib.hid (fun rn => rd_drew (jTold a0 _ (num4 b0 ++ (num4 a0 ++ num4 b0)) (wr.drewN rn) (by omega) ((cutHd0 HB1.out (by have := HN.out; omega) hnc).new ((Mod.refl _ wr).drewN rn))))
      have HU := Lib.hid (fun rn => rd_drew (jTold b0 _ (num4 a0 ++ num4 b0) (wr.drewN rn) (by omega) ((cutHd0' HB1.out (by have := HN.out; omega) hnc).new ((Mod.refl _ wr).drewN rn))))
      have hc4 : ¬ c = 4 := by have := HN.out; omega
      have h16 : (16 : Int) ≤ c := by have := HN.out; omega
      clear h0
      go_wp2_with fail
      refine wp_region2 [] [39] (by kernel_rfl) (by kernel_rfl) ?_
      repeat (first | (refine reg_anyT (by rfl) (fun K hK => ?_); go_simp; refine hK _ _ ?_; clear hK K) | (refine reg_read (by rfl) (fun K hK => ?_); go_simp; refine hK _ _ ?_; clear hK K))
      refine reg_read (by rfl) (fun K hK => ?_); go_simp
      refine ⟨_, HT.out, hK _ _ ?_⟩; clear hK K
      repeat (first | (refine reg_anyT (by rfl) (fun K hK => ?_); go_simp; refine hK _ _ ?_; clear hK K) | (refine reg_read (by rfl) (fun K hK => ?_); go_simp; refine hK _ _ ?_; clear hK K))
      refine reg_read (by rfl) (fun K hK => ?_); go_simp
      refine ⟨_, HU.out, hK _ _ ?_⟩; clear hK K
      repeat (first | (refine reg_anyT (by rfl) (fun K hK => ?_); go_simp; refine hK _ _ ?_; clear hK K) | (refine reg_read (by rfl) (fun K hK => ?_); go_simp; refine hK _ _ ?_; clear hK K))
      refine reg_nil (fun nd => ?_)
      have M1 := Lib.hid (hm.out.drewN nd)
      have B2 := Lib.hid (HB.out.new M1.out)
      clear HT HU hm HB1
      generalize wr.drewN nd = w2 at *
      by_cases ha : a0 = 0
      · have hai : ¬ ((0 : Int) < a0) := by omega
        have HA := Lib.hid ha
        clear ha
        go_wp2_with fail
        all_goals exact ⟨⟨M1.out, .inr (.inl ⟨rfl, by rw [HA.out]; rfl, by rw [HH.out.2.1 HA.out]; rfl⟩)⟩, by simp [intOf]⟩
      · have hai : (0 : Int) < a0 := by omega
        have h0 := HH.out
        have f1 : (a0 : Int) ≤ 1073741824 := by omega
        have f2 : (a0 : Int).tmod 2 = 0 := by rw [Int.tmod_eq_emod_of_nonneg (by omega)]; omega
        have f3 : IntKind.i64.wrap ((n : Int) - 32) = (n : Int) - 32 := wrapI (by omega) (by omega)
        have f4 : (b0 : Int) ≤ (n : Int) - 32 := by have := HN.out; omega
        have HK := Lib.hid (jHead a0 b0 w2 (by omega) (by have := HN.out; omega))
        have HA := Lib.hid ha
        clear ha h0
        go_wp2_with fail
        refine HK.out.mono ?_; rintro e w3 ⟨v3, rfl, o3, m3⟩
        obtain ⟨p3, n3, c3, rfl⟩ : ∃ p n c, v3 = .slice p n c := by
          rcases o3.1.sl with ⟨rfl, _⟩ | ⟨x, c, rfl, _⟩
          · exact ⟨_, _, _, rfl⟩
          · exact ⟨_, _, _, rfl⟩
        have HE := Lib.hid (jEqSame ((cutHd0 B2.out (by have := HN.out; omega) hnc).new m3) o3.1)
        have M3 := Lib.hid (M1.out.trans m3)
        clear o3 m3 HK
        go_wp2_with fail
        refine HE.out.mono ?_; rintro e w' ⟨rfl, rfl⟩
        clear HE
        go_wp2_with fail
        exact ⟨⟨M3.out, .inr (.inl ⟨rfl, rfl, rfl⟩)⟩, by simp [intOf]⟩
    · have HB0 := Lib.hid (fun w' (hm : Mod (fun _ => False) w w') => cutTl (HB.out.new hm) (by have := HN.out; omega) hnc)
      obtain ⟨Y, hY⟩ : ∃ Y : Addr, Y = ⟨X.block, X.off + 16, none⟩ := ⟨_, rfl⟩
      rw [← hY] at HB0
      have HB1 := Lib.hid (HB0.out _ hm.out)
      have h0 := HH.out
      have HT := Lib.hid (fun rn => rd_drew (jTold a1 _ (num4 b1 ++ (num4 a1 ++ num4 b1)) (wr.drewN rn) (by omega) ((cutHd0 HB1.out (by have := HN.out; omega) (by omega)).new ((Mod.refl _ wr).drewN rn))))
      have HU := Lib.hid (fun rn => rd_drew (jTold b1 _ (num4 a1 ++ num4 b1) (wr.drewN rn) (by omega) ((cutHd0' HB1.out (by have := HN.out; omega) (by omega)).new ((Mod.refl _ wr).drewN rn))))
      have hc4 : ¬ c - 16 = 4 := by have := HN.out; omega
      have hc5 : ¬ c = 16 := by have := HN.out; omega
      have h16 : (16 : Int) ≤ ((c - 16 : Nat) : Int) := by have := HN.out; omega
      have h17 : (16 : Int) ≤ n := by have := HN.out; omega
      have HY := Lib.hid hY
      rw [hY] at HT HU
      clear h0 hY
      go_wp2_with fail
      refine wp_region2 [] [39] (by kernel_rfl) (by kernel_rfl) ?_
      repeat (first | (refine reg_anyT (by rfl) (fun K hK => ?_); go_simp; refine hK _ _ ?_; clear hK K) | (refine reg_read (by rfl) (fun K hK => ?_); go_simp; refine hK _ _ ?_; clear hK K))
      refine reg_read (by rfl) (fun K hK => ?_); go_simp
      refine ⟨_, HT.out, hK _ _ ?_⟩; clear hK K
      repeat (first | (refine reg_anyT (by rfl) (fun K hK => ?_); go_simp; refine hK _ _ ?_; clear hK K) | (refine reg_read (by rfl) (fun K hK => ?_); go_simp; refine hK _ _ ?_; clear hK K))
      refine reg_read (by rfl) (fun K hK => ?_); go_simp
      refine ⟨_, HU.out, hK _ _ ?_⟩; clear hK K
      repeat (first | (refine reg_anyT (by rfl) (fun K hK => ?_); go_simp; refine hK _ _ ?_; clear hK K) | (refine reg_read (by rfl) (fun K hK => ?_); go_simp; refine hK _ _ ?_; clear hK K))
      refine reg_nil (fun nd => ?_)
      have M1 := Lib.hid (hm.out.drewN nd)
      have B2 := Lib.hid (HB0.out _ M1.out)
      rw [HY.out] at B2
      clear HT HU hm HB1 HB0
      generalize wr.drewN nd = w2 at *
      by_cases ha : a0 < a1
      · have hai : (a0 : Int) < a1 := by omega
        have h0 := HH.out
        have f1 : (a1 : Int) ≤ 1073741824 := by omega
        have f2 : (a1 : Int).tmod 2 = 1 := by rw [Int.tmod_eq_emod_of_nonneg (by omega)]; omega
        have f3 : IntKind.i64.wrap ((n : Int) - 32) = (n : Int) - 32 := wrapI (by omega) (by omega)
        have f4 : (b1 : Int) ≤ (n : Int) - 32 := by have := HN.out; omega
        have HK := Lib.hid (jHead a1 b1 w2 (by omega) (by have := HN.out; omega))
        have HA := Lib.hid ha
        clear ha h0
        go_wp2_with fail
        refine HK.out.mono ?_; rintro e w3 ⟨v3, rfl, o3, m3⟩
        obtain ⟨p3, n3, c3, rfl⟩ : ∃ p n c, v3 = .slice p n c := by
          rcases o3.1.sl with ⟨rfl, _⟩ | ⟨x, c, rfl, _⟩
          · exact ⟨_, _, _, rfl⟩
          · exact ⟨_, _, _, rfl⟩
        have HE := Lib.hid (jEqSame ((cutHd0 B2.out (by have := HN.out; omega) (by omega)).new m3) o3.1)
        have M3 := Lib.hid (M1.out.trans m3)
        clear o3 m3 HK
        go_wp2_with fail
        refine HE.out.mono ?_; rintro e w' ⟨rfl, rfl⟩
        clear HE
        go_wp2_with fail
        exact ⟨⟨M3.out, .inr (.inr ⟨rfl, by have := HH.out.2.2.2.2.2.2.2; rw [if_pos HA.out] at this; rw [this]⟩)⟩, by simp [intOf]⟩
      · have hai : ¬ ((a0 : Int) < a1) := by omega
        have HA := Lib.hid ha
        clear ha
        go_wp2_with fail
        exact ⟨⟨M1.out, .inr (.inr ⟨rfl, by have := HH.out.2.2.2.2.2.2.2; rw [if_neg HA.out] at this; rw [this]⟩)⟩, by simp [intOf]⟩
    · obtain ⟨L, hL⟩ : ∃ L, L = E.length := ⟨_, rfl⟩
      rw [← hL]
      have HLL := Lib.hid hL
      have hw : IntKind.i64.wrap (32 + (L : Int)) = 32 + L := wrapI (by omega) (by have := HH.out; omega)
      have h1 : 32 + (L : Int) ≤ c := by have := HN.out; omega
      clear hL
      have hdrop : Hid (((hd a0 b0 ++ (hd a1 b1 ++ E)).drop 32).take L = E) := by
        show _ = _
        rw [show 32 = (hd a0 b0 ++ hd a1 b1).length from rfl, ← List.append_assoc, List.drop_left, HLL.out, List.take_length]
      go_wp2_with fail
      · have hE0 : E = [] := List.length_eq_zero_iff.1 (by have := HN.out; omega)
        have hL0 : L = 0 := by rw [HLL.out, hE0]; rfl
        go_ret
        refine ⟨⟨_, rfl, ?_, fun x n c e => by cases e; rfl⟩, hm.out⟩
        rw [hE0, hL0]
        exact ⟨.inr ⟨X, 0, rfl, rfl, fun j u hj => by simp [byts] at hj⟩, fun x n c e => by cases e; exact Nat.le_refl _⟩
      · go_ret
        refine ⟨⟨_, rfl, ?_, fun x n c e => by cases e; rfl⟩, hm.out⟩
        have := (HB.out.new hm.out).cut (k := 32) (m := L) (c' := c - 32) (by have := HN.out; have := HLL.out; omega) (by have := HN.out; have := HLL.out; omega)
        rw [show X.add 32 = ⟨X.block, X.off + 32, none⟩ by simp [Addr.add], hdrop.out] at this
        exact this
end Go.Proofs.Ytdlplablojdjlaa
