/- Package member: Gossip, for any seed; no condition. -/
import Derived.Test.YtagiodagbfahpaaMbK
import Derived.Test.YtagiodagbfahpaaDaT
import Derived.Test.YtagiodagbfahpaaRegO
namespace Go.Proofs.Ytagiodagbfahpaa
open Go Go.RowKit

/-- The Ids that Gossip takes, in order. -/
def gosI (seed k : Int) (ks : List (Int × Rc)) : List Int := (shuffled seed (keysL ks)).take (smp k ks.length)
/-- What Gossip tells of others. -/
def gosO (seed k : Int) (ks : List (Int × Rc)) : List (Int × Rc) := (gosI seed k ks).map fun i => (i, rd ks i)
def gosL (S : Int × Rc) (seed k : Int) (ks : List (Int × Rc)) : List (Int × Rc) := gosO seed k ks ++ [S]
theorem keysL_len (ks : List (Int × Rc)) : (keysL ks).length = ks.length := by simp [keysL]
theorem gosI_len (seed k : Int) (ks : List (Int × Rc)) : (gosI seed k ks).length = smp k ks.length := by
  unfold gosI
  rw [List.length_take, shuffled_len, keysL_len]
  exact Nat.min_eq_left (smp_le _ _)
theorem gosO_len (seed k : Int) (ks : List (Int × Rc)) : (gosO seed k ks).length = smp k ks.length := by unfold gosO; rw [List.length_map, gosI_len]
theorem gosI_mem {seed k : Int} {ks : List (Int × Rc)} {x : Int} (h : x ∈ gosI seed k ks) : ∃ r, (x, r) ∈ ks := by
  have h1 : x ∈ shuffled seed (keysL ks) := List.mem_of_mem_take h
  have h2 : x ∈ keysL ks := by
    have := count_shuffled x seed (keysL ks)
    rw [← List.count_pos_iff] at h1 ⊢
    omega
  unfold keysL at h2
  obtain ⟨q, hq, rfl⟩ := List.mem_map.1 h2
  exact ⟨q.2, hq⟩
set_option maxRecDepth 100000 in
set_option maxHeartbeats 4000000 in
theorem memGossip (seed k : Int) (b M : Nat) (S : Int × Rc) (most : Int) (ks : List (Int × Rc)) (w : World) (h : VW w b M S most ks) (hlen : ks.length ≤ 1000) (hI : ∀ q ∈ ks, I64 q.1) :
    Calls Try.prog 20 #[.pointer (some ⟨b, 0, none⟩), .int .i64 k, .int .u64 seed] w fun e w' => (∃ v, e = .returned v ∧ w'.ownsRow w.heap.size TMb 4 v (gosL S seed k ks).length (recL (gosL S seed k ks))) ∧ Mod (fun _ => False) w w' := by
  have c3 : w.cell? ⟨b, 5, none⟩ = some (.map (some M)) := h.head.cell 5
  have H := Lib.hid h
  have HI := Lib.hid hI
  clear h hI
  obtain ⟨L, hL⟩ : ∃ L, L = gosI seed k ks := ⟨_, rfl⟩
  rw [show gosL S seed k ks = L.map (fun i => (i, rd ks i)) ++ [S] by rw [hL]; rfl]
  have HL := Lib.hid hL
  clear hL
  go_enter Try.func20, Try.ntmps20
  go_wp2_with fail
  refine wp_regionO2 [0, 2, 3, 4, 5, 1, 6, 7, 8, 9, 10, 11] [(4, 3), (5, 4)] [] (by kernel_rfl) (by kernel_rfl) (by simp only [List.filterMap_cons, List.filterMap_nil, List.getElem?_cons_zero, List.getElem?_cons_succ]; exact rfl) ?_
  repeat (first | (refine reg_anyT (by rfl) (fun K hK => ?_); go_simp; refine hK _ _ ?_; clear hK K) | (refine reg_read (by rfl) (fun K hK => ?_); go_simp; refine hK _ _ ?_; clear hK K))
  refine reg_hold_v (by rfl) (by rfl) (.map (some M)) (fun w' hw' => q_load _ _ _ rfl rfl Try.isAgg64 (hw'.cell c3)) ?_
  repeat (first | (refine reg_anyT (by rfl) (fun K hK => ?_); go_simp; refine hK _ _ ?_; clear hK K) | (refine reg_read (by rfl) (fun K hK => ?_); go_simp; refine hK _ _ ?_; clear hK K))
  refine reg_new (by rfl) (fun rn K hK => ?_); go_simp
  refine (drawNew seed _).mono ?_; rintro e w1 ⟨rfl, rfl⟩
  refine hK _ _ ⟨((Mod.refl (fun _ => False) (w.drewN rn)).alloc (.cells #[.int .u64 seed] 91)).ex, ?_⟩; clear hK K
  have ma : Mod (fun _ => False) w ((w.drewN rn).alloc (.cells #[.int .u64 seed] 91)) := ((Mod.refl _ w).drewN rn).alloc _
  have MA := Lib.hid ma
  have GA := Lib.hid (show Blk ((w.drewN rn).alloc (.cells #[.int .u64 seed] 91)) w.heap.size #[.int .u64 seed] 91 from Blk.new (w.drewN rn) _ _)
  have V1 := Lib.hid (H.out.new ma)
  clear ma
  generalize (w.drewN rn).alloc (.cells #[.int .u64 seed] 91) = w1 at *
  repeat (first | (refine reg_anyT (by rfl) (fun K hK => ?_); go_simp; refine hK _ _ ?_; clear hK K) | (refine reg_read (by rfl) (fun K hK => ?_); go_simp; refine hK _ _ ?_; clear hK K))
  refine reg_eff (by rfl) (fun rn K hK => ?_); go_simp
  refine (Try.maps_Keys_31 (some M) _).mono ?_; rintro e w2 ⟨rfl, rfl⟩
  refine hK _ _ ?_; clear hK K
  repeat (first | (refine reg_anyT (by rfl) (fun K hK => ?_); go_simp; refine hK _ _ ?_; clear hK K) | (refine reg_read (by rfl) (fun K hK => ?_); go_simp; refine hK _ _ ?_; clear hK K))
  refine reg_eff (by rfl) (fun rn2 K hK => ?_); go_simp
  have HS := Try.slices_Sorted_keys_31 M _ (toD (mp ks)) RV ((w1.drewN rn).drewN rn2) ((V1.out.drewN rn).drewN rn2).map.owns (by rw [size_toD, mp_len]; unfold maxLen; omega) (by rw [size_toD, mp_len]; omega)
  refine HS.mono ?_; rintro e w2 hq
  have hq2 := IntsP.of_sorted V1.out.map.rising ((((Mod.refl (fun _ => False) w1).drewN rn).drewN rn2).alloc _) hq
  obtain ⟨v, rfl, o, m⟩ := hq2
  rw [keys_mp] at o
  have O2 := Lib.hid o
  have MA2 := Lib.hid (MA.out.trans m)
  have G2 := Lib.hid (GA.out.mod m (fun h => h))
  have V2 := Lib.hid (V1.out.new m)
  clear HS hq o m
  refine hK _ _ ?_; clear hK K
  repeat (first | (refine reg_anyT (by rfl) (fun K hK => ?_); go_simp; refine hK _ _ ?_; clear hK K) | (refine reg_read (by rfl) (fun K hK => ?_); go_simp; refine hK _ _ ?_; clear hK K))
  refine reg_eff (by rfl) (fun rn3 K hK => ?_); go_simp
  refine (drawSample v (keysL ks) seed k w.heap.size _ (O2.out.sl.mod ((Mod.refl (fun _ => False) w2).drewN rn3) (fun _ _ _ _ h => h)) (by rw [keysL_len]; omega) (G2.out.cell 0) (G2.out.frozen 0)).mono ?_
  rintro e w3 ⟨v', rfl, o3, _, _, m3⟩
  have hsz : w.heap.size ≤ w2.heap.size := MA2.out.size
  have M3 := Lib.hid (((MA2.out.drewN rn3).mono (S' := (· = w.heap.size)) (fun _ _ h => h.elim)).trans m3)
  have V3 := Lib.hid (V2.out.mod (((Mod.refl (· = w.heap.size) w2).drewN rn3).trans m3) (by have := H.out.lt; show ¬ b = _; omega) (by have := H.out.lt; show ¬ M = _; omega))
  rw [keysL_len] at o3
  have O3 := Lib.hid (show w3.ownsRow w.heap.size 3 1 v' L.length (ints L) by rw [HL.out, gosI_len]; exact o3.mono (by show w.heap.size ≤ w2.heap.size; exact hsz))
  have HLM := Lib.hid (show ∀ x ∈ L, ∃ r, (x, r) ∈ ks by rw [HL.out]; exact fun x hx => gosI_mem hx)
  have hLl : L.length ≤ 1000 := by rw [HL.out, gosI_len]; have := smp_le k ks.length; omega
  clear o3 m3 hsz G2 O2 V2 MA2 V1 MA GA c3
  obtain ⟨ol, o2⟩ := O3.out
  rcases o2 with ⟨rfl, hn⟩ | ⟨g, cap, cur, rfl, hg, hh, hcap, _, _, htk⟩
  · obtain rfl : L = [] := by simpa using hn
    refine hK _ _ ?_; clear hK K
    repeat (first | (refine reg_anyT (by rfl) (fun K hK => ?_); go_simp; refine hK _ _ ?_; clear hK K) | (refine reg_read (by rfl) (fun K hK => ?_); go_simp; refine hK _ _ ?_; clear hK K))
    refine reg_nil (fun nd => ?_)
    have V4 := Lib.hid (V3.out.drewN nd)
    have M4 := Lib.hid (M3.out.drewN nd)
    clear V3 M3 ol hn O3 HLM HL
    generalize w3.drewN nd = w4 at *
    have c0 := V4.out.head.cell 0; have c1 := V4.out.head.cell 1; have c2 := V4.out.head.cell 2; have c3 := V4.out.head.cell 3
    go_wp2_with fail
    go_loopw [7, 9, 21] (fun v x i wr => v = .slice none 0 0 ∧ i = .int .i64 0 ∧ wr = w4) (fun _ _ _ _ => 0)
    case atStart => exact ⟨rfl, rfl, rfl⟩
    case round =>
      obtain ⟨rfl, rfl, rfl⟩ := hrel
      go_wp2_with (at_builtin; refine app1 (base := w.heap.size) rfl (.tmp 35) (.tmp 40) 22 TMb 4 rfl Try.underlying22 infoKn rfl (by decide) (.slice none 0 0) 0 [] _ 1 [.int .i64 S.1, .int .i64 S.2.s, .int .i64 S.2.u, .int .i64 S.2.b] (by have := M4.out.size; simp; omega) (World.ownsRow_nil _ _ _ _) rfl rfl (sl_new wr _ _) (by simp [Value.oneCell']) (by decide) (by omega) ?_; intro v' w' g1 g2 g3; have G1 := Lib.hid g1; have G2 := Lib.hid (((Mod.refl _ wr).alloc (.cells #[.int .i64 S.1, .int .i64 S.2.s, .int .i64 S.2.u, .int .i64 S.2.b] TMb)).trans g2); clear g1 g2 g3)
      go_ret
      refine ⟨⟨_, rfl, ?_⟩, (M4.out.trans (G2.out.mono (fun _ _ h => by simp [Value.ownBlock] at h))).mono (fun i hi e => absurd e (by omega))⟩
      simpa [recL] using G1.out.mono (show w.heap.size ≤ w.heap.size from Nat.le_refl _)
  · have HC : Hid (∀ (k : Nat) (x : Int), L[k]? = some x → w3.cell? ⟨g, k, none⟩ = some (.int .i64 x)) := by
      intro k x hk
      have hlt : k < L.length := (List.getElem?_eq_some_iff.1 hk).1
      have h1 := (show Blk w3 g cur _ from hh).cell k
      rw [h1, ← Array.getElem?_toList]
      have h2 := congrArg (fun l => l[k]?) htk
      simp only [List.getElem?_take] at h2
      rw [if_pos (by omega)] at h2
      rw [h2]
      simp [ints, hk]
    clear ol hg hh htk O3
    refine hK _ _ ?_; clear hK K
    repeat (first | (refine reg_anyT (by rfl) (fun K hK => ?_); go_simp; refine hK _ _ ?_; clear hK K) | (refine reg_read (by rfl) (fun K hK => ?_); go_simp; refine hK _ _ ?_; clear hK K))
    refine reg_nil (fun nd => ?_)
    have V4 := Lib.hid (V3.out.drewN nd)
    have M4 := Lib.hid (M3.out.drewN nd)
    have HC4 : Hid (∀ (k : Nat) (x : Int), L[k]? = some x → (w3.drewN nd).cell? ⟨g, k, none⟩ = some (.int .i64 x)) := HC.out
    clear V3 M3 HL HC
    generalize w3.drewN nd = w4 at *
    have HRI := Lib.hid (rising_mp.1 V4.out.map.rising)
    have hLc : L.length ≤ cap := hcap
    go_wp2_with fail
    go_loopw [7, 9, 21] (fun v x i wr => ∃ k : Nat, i = .int .i64 k ∧ k ≤ L.length ∧ Hid (wr.ownsRow w4.heap.size TMb 4 v k (recL ((L.take k).map fun i => (i, rd ks i)))) ∧ Mod (fun _ => False) w4 wr) (fun _ _ i _ => L.length - (intOf i).toNat)
    case atStart => exact ⟨0, rfl, Nat.zero_le _, World.ownsRow_nil _ _ _ _, Mod.refl _ _⟩
    case round =>
      obtain ⟨k, rfl, hk, hown, hm⟩ := hrel
      by_cases hlt : (k : Int) < L.length
      · obtain ⟨x, hkr⟩ : ∃ q, L[k]? = some q := ⟨_, List.getElem?_eq_getElem (by omega)⟩
        have ck := hm.cell (HC4.out k _ hkr) (fun h => h)
        obtain ⟨r, hmem⟩ := HLM.out x (List.mem_of_getElem? hkr)
        have hlk := lk_of_mem HRI.out hmem
        have hrd : rd ks x = r := by unfold rd; rw [hlk]; rfl
        have hl : (Instr.lookup 64 (.map (some M)) (.int .i64 x) false).run Try.prog wr = .ok (.agg #[.int .i64 x, .int .i64 r.s, .int .i64 r.u, .int .i64 r.b]) wr := by
          have := (V4.out.new hm).map.look Try.underlying3 Try.underlying64 (zeroKnown _) (HI.out _ hmem)
          rw [lk_mp, hlk] at this
          exact this
        have k3 : wr.cell? ⟨b, 5, none⟩ = some (.map (some M)) := (V4.out.new hm).head.cell 5
        have HTK := Lib.hid (show (L.take (k + 1)).map (fun i => (i, rd ks i)) = (L.take k).map (fun i => (i, rd ks i)) ++ [(x, r)] by rw [List.take_add_one, hkr, List.map_append]; simp [hrd])
        have HM := Lib.hid hm
        have hkl : k ≤ 1000 := by omega
        clear hkr hmem hlk hrd
        go_wp2_with (at_builtin; refine app1 (base := w4.heap.size) rfl (.tmp 25) (.tmp 32) 22 TMb 4 rfl Try.underlying22 infoKn rfl (by decide) _ _ _ _ 1 [.int .i64 x, .int .i64 r.s, .int .i64 r.u, .int .i64 r.b] (by have := HM.out.size; simp; omega) (hown.out.alloc _) rfl rfl (sl_new wr _ _) (by simp [Value.oneCell']) (by decide) (by omega) ?_; intro v' w' g1 g2 g3; have G1 := Lib.hid g1; have G2 := Lib.hid (((Mod.refl _ wr).alloc (.cells #[.int .i64 x, .int .i64 r.s, .int .i64 r.u, .int .i64 r.b] TMb)).trans g2); clear g1 g2 g3)
        refine ⟨⟨k + 1, by go_num, by omega, ?_, ?_⟩, by simp [intOf]; omega⟩
        · show World.ownsRow _ _ _ _ _ _ _
          rw [HTK.out, recL_snoc]
          exact G1.out
        · exact HM.out.new G2.out (own_ge hown.out)
      · have hkn : k = L.length := by omega
        have h1 := hown.out
        rw [hkn, List.take_length] at h1
        have O1 := Lib.hid h1
        have HM := Lib.hid hm
        have V5 := Lib.hid (V4.out.new hm)
        have c0 := V5.out.head.cell 0; have c1 := V5.out.head.cell 1; have c2 := V5.out.head.cell 2; have c3 := V5.out.head.cell 3
        clear h1 hown hkn hm
        go_wp2_with (at_builtin; refine app1 (base := w4.heap.size) rfl (.tmp 35) (.tmp 40) 22 TMb 4 rfl Try.underlying22 infoKn rfl (by decide) _ _ _ _ 1 [.int .i64 S.1, .int .i64 S.2.s, .int .i64 S.2.u, .int .i64 S.2.b] (by have := HM.out.size; simp; omega) (O1.out.alloc _) rfl rfl (sl_new wr _ _) (by simp [Value.oneCell']) (by decide) (by omega) ?_; intro v' w' g1 g2 g3; have G1 := Lib.hid g1; have G2 := Lib.hid (((Mod.refl _ wr).alloc (.cells #[.int .i64 S.1, .int .i64 S.2.s, .int .i64 S.2.u, .int .i64 S.2.b] TMb)).trans g2); clear g1 g2 g3)
        go_ret
        refine ⟨⟨_, rfl, ?_⟩, (M4.out.trans ((HM.out.new G2.out (own_ge O1.out)).mono (fun _ _ h => h.elim))).mono (fun i hi e => absurd e (by omega))⟩
        rw [recL_snoc]
        exact G1.out.mono (by have := M4.out.size; omega)
end Go.Proofs.Ytagiodagbfahpaa
