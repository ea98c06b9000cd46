/- Package strikes: Strike, whole; conditions: its arguments are ints, the book holds what a book can hold. -/
import Derived.Test.YtiabjaaamgjlnaaStrG
import Derived.Test.YtiabjaaamgjlnaaStrL
import Derived.Deep.CutRange
namespace Go.Proofs.Ytiabjaaamgjlnaa
open Go Go.RowKit

/-- What a strike makes of one. -/
def strX (lim ban : Int) (r : Rc) (now by' : Int) : Rc :=
  let x : Rc := if 0 < r.u then ⟨0, 0, 0⟩ else r
  ⟨x.s + 1, if lim ≤ x.s + 1 then now + ban else 0, x.b + by'⟩
def cutX (most : Int) (ks : List (Int × Rc)) : List (Int × Rc) := if most < (ks.length : Int) then delL ks (firstK ks) else ks

set_option maxRecDepth 100000 in
set_option maxHeartbeats 4000000 in
theorem strStrikeX (id now by' : Int) (b M : Nat) (lim ban most : Int) (ks : List (Int × Rc)) (w : World) (hi : 1 ≤ id) (hi2 : id ≤ 65536) (hn : 0 ≤ now) (hn2 : now ≤ 1099511627776) (hb : 0 ≤ by') (hb2 : by' ≤ 1048576) (h : BK w b M lim ban most ks) (hnb : bnd ks id now = false)
    (hs : 0 ≤ (rd ks id).s ∧ (rd ks id).s ≤ 1000000 ∧ 0 ≤ (rd ks id).u ∧ (rd ks id).u ≤ 2199023255552 ∧ 0 ≤ (rd ks id).b ∧ (rd ks id).b ≤ 1152921504606846976) (hban : 0 ≤ ban) (hban2 : ban ≤ 1048576) (hu : OkU (putL ks id (strX lim ban (rd ks id) now by'))) (hI2 : I64 (firstK (putL ks id (strX lim ban (rd ks id) now by'))))
    (hlen : (putL ks id (strX lim ban (rd ks id) now by')).length ≤ 1000) (hlen2 : ks.length ≤ 1000) :
    Calls Try.prog 10 #[.pointer (some ⟨b, 0, none⟩), .int .i64 id, .int .i64 now, .int .i64 by'] w fun e w' =>
      e = .returned (.tuple #[.bool (decide (0 < (rd (cutX most (putL ks id (strX lim ban (rd ks id) now by'))) id).u)), .int .i64 0]) ∧ BK w' b M lim ban most (cutX most (putL ks id (strX lim ban (rd ks id) now by'))) ∧ Mod (· = M) w w' := by
  have e1 : (decide (1 ≤ id) && decide (id ≤ 65536)) = true := by simp [hi, hi2]
  have e2 : (decide (0 ≤ now) && decide (now ≤ 1099511627776)) = true := by simp [hn, hn2]
  have e3 : (decide (0 ≤ by') && decide (by' ≤ 1048576)) = true := by simp [hb, hb2]
  have hI : I64 id := i64_of (by omega) (by omega)
  have c3 : w.cell? ⟨b, 3, none⟩ = some (.map (some M)) := h.head.cell 3
  have hl := h.map.look Try.underlying3 Try.underlying52 (zeroKnown w) hI
  rw [at_mp] at hl
  have hz := zeroKnown
  obtain ⟨N, hN⟩ : ∃ N, N = strX lim ban (rd ks id) now by' := ⟨_, rfl⟩
  rw [← hN] at hu hI2 hlen ⊢
  obtain ⟨k2, hk2⟩ : ∃ k2, k2 = putL ks id N := ⟨_, rfl⟩
  rw [← hk2] at hu hI2 hlen ⊢
  have HK2 := Lib.hid hk2
  clear hk2
  obtain ⟨r0, hr0⟩ : ∃ r0, r0 = rd ks id := ⟨_, rfl⟩
  rw [← hr0] at hN hs hl
  obtain ⟨s, u, bb⟩ := r0
  dsimp only at hs hl
  obtain ⟨xs, xb, hx⟩ : ∃ xs xb, (0 < u → xs = 0 ∧ xb = 0) ∧ (u = 0 → xs = s ∧ xb = bb) := by
    by_cases h : 0 < u
    · exact ⟨0, 0, fun _ => ⟨rfl, rfl⟩, fun e => by omega⟩
    · exact ⟨s, bb, fun e => absurd e h, fun _ => ⟨rfl, rfl⟩⟩
  have hNN : N = ⟨xs + 1, if lim ≤ xs + 1 then now + ban else 0, xb + by'⟩ := by
    rw [hN]
    unfold strX
    by_cases h : 0 < u
    · simp only [h, if_true]
      rw [(hx.1 h).1, (hx.1 h).2]
    · simp only [h, if_false]
      rw [(hx.2 (by omega)).1, (hx.2 (by omega)).2]
  have hxs : 0 ≤ xs ∧ xs ≤ 1000000 ∧ 0 ≤ xb ∧ xb ≤ 1152921504606846976 := by
    by_cases h : 0 < u
    · have := hx.1 h; omega
    · have := hx.2 (by omega); omega
  have HS := Lib.hid hs
  have HX := Lib.hid hx
  have HXS := Lib.hid hxs
  have HB := Lib.hid h
  have HI := Lib.hid hI
  have HLN := Lib.hid hlen
  have HLN2 := Lib.hid hlen2
  have HN := Lib.hid hNN
  have HU := Lib.hid hu
  have HI2 := Lib.hid hI2
  generalize idf ks id = i at hl
  clear h hlen hI hN hu hI2 hlen2 hs hx hxs hNN hr0
  have hlw := h_lt HB.out
  go_enter Try.func10, Try.ntmps10
  go_wp2_with fail
  refine (strWithin _ _ _ _).mono ?_; rw [e1]; rintro e w' ⟨rfl, rfl⟩
  go_wp2_with fail
  refine (strWithin _ _ _ _).mono ?_; rw [e2]; rintro e w' ⟨rfl, rfl⟩
  go_wp2_with fail
  refine (strWithin _ _ _ _).mono ?_; rw [e3]; rintro e w' ⟨rfl, rfl⟩
  go_wp2_with fail
  refine (strBanned _ _ _ _ _ _ _ _ _ HI.out HB.out).mono ?_; rw [hnb]; rintro e w' ⟨rfl, rfl⟩
  clear e1 e2 e3 hnb
  go_upto_if 38 with fail
  have m1 := (Mod.refl (fun _ => False) w).alloc (.cells #[.int .i64 i, .int .i64 s, .int .i64 u, .int .i64 bb] 56)
  have B1 := Lib.hid (Blk.new w #[.int .i64 i, .int .i64 s, .int .i64 u, .int .i64 bb] 56)
  have M1 := Lib.hid m1
  clear m1
  generalize w.alloc (.cells #[.int .i64 i, .int .i64 s, .int .i64 u, .int .i64 bb] 56) = w1 at *
  have F1 := B1.out.frozen
  go_cut [10] from 36 to 39 (fun v wx => v = .pointer (some ⟨w.heap.size, 0, none⟩) ∧ (∃ j, Hid (Blk wx w.heap.size #[.int .i64 j, .int .i64 xs, .int .i64 0, .int .i64 xb] 56)) ∧ Hid (Mod (fun _ => False) w wx))
  case first =>
    by_cases hu : 0 < u
    · have f0 := F1 0; have f1 := F1 1; have f2 := F1 2; have f3 := F1 3
      have x0 := B1.out.cell 0; have x1 := B1.out.cell 1; have x2 := B1.out.cell 2; have x3 := B1.out.cell 3
      clear F1
      go_wp2_with fail
      go_meet
      refine ⟨rfl, ⟨0, ?_⟩, ?_⟩
      · show Blk _ _ _ _
        rw [(HX.out.1 hu).1, (HX.out.1 hu).2]
        exact (((B1.out.set 0 _).set 1 _).set 2 _).set 3 _
      · exact (((M1.out.setCell (p := ⟨w.heap.size, 0, none⟩) (.inr (Nat.le_refl _)) _).setCell (p := ⟨w.heap.size, 1, none⟩) (.inr (Nat.le_refl _)) _).setCell (p := ⟨w.heap.size, 2, none⟩) (.inr (Nat.le_refl _)) _).setCell (p := ⟨w.heap.size, 3, none⟩) (.inr (Nat.le_refl _)) _
    · have hu0 : u = 0 := by have := HS.out; omega
      have HU0 := Lib.hid hu0
      have hu' : decide (0 < u) = false := by simpa using hu
      clear F1 hu0
      go_wp2_with fail
      go_meet
      refine ⟨rfl, ⟨i, ?_⟩, M1⟩
      show Blk _ _ _ _
      have e1 := B1.out
      rw [HU0.out] at e1
      rw [(HX.out.2 HU0.out).1, (HX.out.2 HU0.out).2]
      exact e1
  case rest =>
    obtain ⟨rfl, ⟨j, B2⟩, M2⟩ := hcut
    have c31 := M2.out.cell c3 (fun h => h)
    have c30 := M2.out.cell (HB.out.head.cell 0) (fun h => h)
    have c32 := M2.out.cell (HB.out.head.cell 1) (fun h => h)
    have F2 := B2.out.frozen
    have f0 := F2 0; have f1 := F2 1; have f2 := F2 2; have f3 := F2 3
    have x0 := B2.out.cell 0; have x1 := B2.out.cell 1; have x2 := B2.out.cell 2; have x3 := B2.out.cell 3
    have hxs := HXS.out
    have c30' : wc.cell? ⟨b, 0, none⟩ = some (.int .i64 lim) := c30
    have c32' : wc.cell? ⟨b, 1, none⟩ = some (.int .i64 ban) := c32
    clear F1 F2 c3 c30 c32 hl
    go_upto_region 9 with fail
    have hx9 : Blk ((((wc.setCell ⟨w.heap.size, 0, none⟩ (.int .i64 id)).setCell ⟨w.heap.size, 1, none⟩ (.int .i64 (xs + 1))).setCell ⟨w.heap.size, 3, none⟩ (.int .i64 (xb + by')))) w.heap.size #[.int .i64 id, .int .i64 (xs + 1), .int .i64 0, .int .i64 (xb + by')] 56 := ((B2.out.set 0 _).set 1 _).set 3 _
    have hm9 : Mod (fun _ => False) w ((((wc.setCell ⟨w.heap.size, 0, none⟩ (.int .i64 id)).setCell ⟨w.heap.size, 1, none⟩ (.int .i64 (xs + 1))).setCell ⟨w.heap.size, 3, none⟩ (.int .i64 (xb + by')))) := ((M2.out.setCell (p := ⟨w.heap.size, 0, none⟩) (.inr (Nat.le_refl _)) _).setCell (p := ⟨w.heap.size, 1, none⟩) (.inr (Nat.le_refl _)) _).setCell (p := ⟨w.heap.size, 3, none⟩) (.inr (Nat.le_refl _)) _
    have X9 := Lib.hid hx9
    have M9 := Lib.hid hm9
    clear hx9 hm9 f0 f1 f2 f3 x0 x1 x2 x3 c31 c30' c32' B2 M2
    generalize ((wc.setCell ⟨w.heap.size, 0, none⟩ (.int .i64 id)).setCell ⟨w.heap.size, 1, none⟩ (.int .i64 (xs + 1))).setCell ⟨w.heap.size, 3, none⟩ (.int .i64 (xb + by')) = w9 at *
    clear wc
    have c30 : w9.cell? ⟨b, 0, none⟩ = some (.int .i64 lim) := M9.out.cell (HB.out.head.cell 0) (fun h => h)
    have c31 : w9.cell? ⟨b, 1, none⟩ = some (.int .i64 ban) := M9.out.cell (HB.out.head.cell 1) (fun h => h)
    have x0 := X9.out.cell 0; have x1 := X9.out.cell 1; have x2 := X9.out.cell 2; have x3 := X9.out.cell 3
    have f2 := X9.out.frozen 2
    go_quiet (fail)
    go_upto_if 57 with fail
    go_cut [10] from 51 to 64 (fun v wx => v = .pointer (some ⟨w.heap.size, 0, none⟩) ∧ Hid (Blk wx w.heap.size #[.int .i64 id, .int .i64 N.s, .int .i64 N.u, .int .i64 N.b] 56) ∧ Hid (Mod (fun _ => False) w wx))
    case first =>
      by_cases hlim : lim ≤ xs + 1
      · go_wp2_with fail
        go_meet
        refine ⟨rfl, ?_, (M9.out.drewN _).setCell (p := ⟨w.heap.size, 2, none⟩) (.inr (Nat.le_refl _)) _⟩
        show Blk _ _ _ _
        rw [HN.out, if_pos hlim]
        exact (X9.out.drewN _).set 2 _
      · have hlim' : decide (lim ≤ xs + 1) = false := by simpa using hlim
        have HLI := Lib.hid hlim
        go_wp2_with fail
        go_meet
        refine ⟨rfl, ?_, M9.out.drewN _⟩
        show Blk _ _ _ _
        rw [HN.out, if_neg (by have := HLI.out; omega)]
        exact X9.out.drewN _
    case rest =>
      obtain ⟨rfl, X3, M3⟩ := hcut
      have HB1 : Hid (BK wc b M lim ban most ks) := HB.out.mod M3.out (fun h => h) (fun h => h)
      have c31 : wc.cell? ⟨b, 3, none⟩ = some (.map (some M)) := HB1.out.head.cell 3
      have hx0 := X3.out.cell 0; have hx1 := X3.out.cell 1; have hx2 := X3.out.cell 2; have hx3 := X3.out.cell 3
      clear hxs x0 x1 x2 x3 f2
      go_upto_region 11 with fail
      refine wp_region_stages0 [0, 0, 0, 1, 0, 1, 2] (by kernel_rfl) (by kernel_rfl) ?_
      repeat (first | (refine stage_any (fun K hK => ?_); go_simp; refine hK _ _ ?_; clear hK K) | (refine stage_pin (fun K hK => ?_); go_simp; refine hK _ _ ?_; clear hK K))
      obtain ⟨D, hD⟩ : ∃ D : World → Prop, D = fun w' => BK w' b M lim ban most k2 ∧ Mod (· = M) w w' := ⟨_, rfl⟩
      refine stage_eff_v (by rfl) undef D (eff_mapUpdate _ _ _ _ rfl (fun w' hw' => ?_)) (by subst hD; exact ⟨fun w n ⟨h1, h2⟩ => ⟨h1.drewN n, h2.drewN n⟩, fun _ _ => trivial⟩) ?_
      · obtain ⟨n, rfl⟩ := hw'
        have hb := HB1.out.drewN n
        obtain ⟨w2, hrun, him, hm2, hz2⟩ := hb.map.put Try.underlying3 Try.underlying52 (by rw [mp_len]; have := HLN2.out; unfold maxLen; omega) HI.out (rcv id N)
        refine ⟨w2, hrun, ?_⟩
        rw [hD]
        rw [put_mp, ← HK2.out] at him
        exact ⟨⟨hb.head.mod hm2 (fun e => hb.ne e.symm), him, hb.ne⟩, ((M3.out.mono (fun _ _ h => h.elim)).drewN n).trans hm2⟩
      · refine stage_nil ?_
        intro w3 hw3
        rw [hD] at hw3
        obtain ⟨g1, g2⟩ := hw3
        have c33 : w3.cell? ⟨b, 3, none⟩ = some (.map (some M)) := g1.head.cell 3
        have c32 : w3.cell? ⟨b, 2, none⟩ = some (.int .i64 most) := g1.head.cell 2
        have hlen : ∀ n, (Builtin.len_ #[52] 3 #[.map (some M)]).run Try.prog (w3.drewN n) = .ok (.int .i64 (k2.length : Int)) (w3.drewN n) := by
          intro n
          have := (g1.drewN n).map.len (T := 52) Try.underlying52 3
          rw [mp_len] at this
          exact this
        have G := Lib.hid g1
        have G2 := Lib.hid g2
        clear hD g1 g2 hx0 hx1 hx2 hx3 c31
        by_cases hml : most < (k2.length : Int)
        · have HC : Hid (cutX most k2 = delL k2 (firstK k2)) := by show _ = _; unfold cutX; rw [if_pos hml]
          go_upto_region 12 with fail
          go_quiet (fail)
          have G3 := Lib.hid (G.out.drewN nq)
          have M4 := Lib.hid (G2.out.drewN nq)
          have hne : k2 ≠ [] := by rw [HK2.out]; unfold putL; intro e; have := congrArg List.length e; rw [length_insS] at this; simp at this
          have HF := Lib.hid (fun n => strFirst b M lim ban most k2 ((w3.drewN nq).drewN n) (G3.out.drewN n) HLN.out hne HU.out)
          have c34 : (w3.drewN nq).cell? ⟨b, 3, none⟩ = some (.map (some M)) := G3.out.head.cell 3
          clear hlen c33 c32
          go_upto_region 13 with fail
          generalize w3.drewN nq = w4 at *
          refine wp_region2 [(3, 3), (5, 4), (6, 2)] [] (by kernel_rfl) (by kernel_rfl) ?_
          repeat (first | (refine reg_anyT (by rfl) (fun K hK => ?_); go_simp; refine hK _ _ ?_; clear hK K) | (refine reg_read (by rfl) (fun K hK => ?_); go_simp; refine hK _ _ ?_; clear hK K))
          refine reg_hold_v (by rfl) (by rfl) (.map (some M)) (fun w' hw' => q_load _ _ _ rfl rfl Try.isAgg52 (hw'.cell c34)) ?_
          repeat (first | (refine reg_anyT (by rfl) (fun K hK => ?_); go_simp; refine hK _ _ ?_; clear hK K) | (refine reg_read (by rfl) (fun K hK => ?_); go_simp; refine hK _ _ ?_; clear hK K))
          refine reg_new (by rfl) (fun rn K hK => ?_); go_simp
          refine (HF.out _).mono ?_; rintro e w' ⟨rfl, m5⟩
          refine hK _ _ ⟨m5.ex, ?_⟩; clear hK K
          repeat (first | (refine reg_anyT (by rfl) (fun K hK => ?_); go_simp; refine hK _ _ ?_; clear hK K) | (refine reg_read (by rfl) (fun K hK => ?_); go_simp; refine hK _ _ ?_; clear hK K))
          have m6 := m5.undrew
          have G5 := Lib.hid (G3.out.new m6)
          refine reg_eff (by rfl) (fun rn K hK => ?_)
          obtain ⟨w6, hrun, him, hm6, hz6⟩ := (G5.out.drewN rn).map.del Try.underlying3 Try.underlying52 0 HI2.out
          go_simp
          refine hK _ _ ?_; clear hK K
          rw [del_mp] at him
          refine reg_nil (fun nd => ?_)
          have G6 : Hid (BK (w6.drewN nd) b M lim ban most (cutX most k2)) := by
            show BK _ _ _ _ _ _ _
            rw [HC.out]
            exact (show BK w6 b M lim ban most (delL k2 (firstK k2)) from ⟨(G5.out.drewN _).head.mod hm6 (fun e => G5.out.ne e.symm), him, G5.out.ne⟩).drewN nd
          have M6 := Lib.hid (((M4.out.trans (m6.mono (fun _ _ h => h.elim))).trans hm6.undrew).drewN nd)
          have hlk : (Instr.lookup 52 (.map (some M)) (.int .i64 id) false).run Try.prog (w6.drewN nd) = .ok (.agg #[.int .i64 (idf (cutX most k2) id), .int .i64 (rd (cutX most k2) id).s, .int .i64 (rd (cutX most k2) id).u, .int .i64 (rd (cutX most k2) id).b]) (w6.drewN nd) := by
            have := G6.out.map.look Try.underlying3 Try.underlying52 (zeroKnown _) HI.out
            rw [at_mp] at this
            exact this
          have c36 : (w6.drewN nd).cell? ⟨b, 3, none⟩ = some (.map (some M)) := G6.out.head.cell 3
          clear hm6 him hz6 hrun m5 m6 c34
          generalize w6.drewN nd = w7 at *
          go_wp2_with fail
          go_ret2
          exact ⟨rfl, G6.out, M6.out⟩
        · have HC : Hid (cutX most k2 = k2) := by show _ = _; unfold cutX; rw [if_neg hml]
          have hlk : ∀ n, (Instr.lookup 52 (.map (some M)) (.int .i64 id) false).run Try.prog (w3.drewN n) = .ok (.agg #[.int .i64 (idf k2 id), .int .i64 (rd k2 id).s, .int .i64 (rd k2 id).u, .int .i64 (rd k2 id).b]) (w3.drewN n) := by
            intro n
            have := (G.out.drewN n).map.look Try.underlying3 Try.underlying52 (zeroKnown _) HI.out
            rw [at_mp] at this
            exact this
          generalize (k2.length : Int) = L at hlen hml
          go_wp2_with fail
          go_quiet (fail)
          go_wp2_with fail
          go_ret2
          exact ⟨by rw [HC.out]; rfl, by rw [HC.out]; exact G.out.drewN _, G2.out.drewN _⟩
end Go.Proofs.Ytiabjaaamgjlnaa
