/- Package strikes: Strike, Good; no condition. -/
import Derived.Test.YtiabjaaamgjlnaaStrA
namespace Go.Proofs.Ytiabjaaamgjlnaa
open Go Go.RowKit

/-- What Good leaves. -/
def goodK (ks : List (Int × Rc)) (id : Int) : List (Int × Rc) :=
  match lkL ks id with
  | some r => if r.u = 0 then putL ks id ⟨max (r.s - 1) 0, r.u, r.b⟩ else ks
  | none => ks
set_option maxRecDepth 100000 in
set_option maxHeartbeats 400000 in
theorem strGood1 (id : Int) (b M : Nat) (lim ban most : Int) (ks : List (Int × Rc)) (w : World) (hi : I64 id) (h : BK w b M lim ban most ks) (r : Rc) (hr : lkL ks id = some r) (hu : r.u = 0) (h1 : 0 ≤ r.s) (h2 : r.s ≤ 1000) (hlen : ks.length < maxLen) :
    Calls Try.prog 13 #[.pointer (some ⟨b, 0, none⟩), .int .i64 id] w fun e w' => e = .returned (.tuple #[]) ∧ BK w' b M lim ban most (putL ks id ⟨max (r.s - 1) 0, r.u, r.b⟩) ∧ Mod (· = M) w w' := by
  have c3 : w.cell? ⟨b, 3, none⟩ = some (.map (some M)) := h.head.cell 3
  have hl := h.map.lookOk Try.underlying3 Try.underlying52 (zeroKnown w) hi
  rw [lk_mp, hr] at hl
  simp only [Option.map_some, Option.getD_some, Option.isSome_some, rcv, hu] at hl
  have hz := zeroKnown
  have HB := Lib.hid h
  have HI := Lib.hid hi
  have HLN := Lib.hid hlen
  clear hi h hr hlen
  obtain ⟨s, u, bb⟩ := r
  dsimp only at *
  subst hu
  go_enter Try.func13, Try.ntmps13
  go_wp2_with fail
  generalize hs1 : max (s - 1) 0 = s1
  have HS1 := Lib.hid hs1
  clear hs1
  obtain ⟨w1, hw1⟩ : ∃ w1, w1 = w.alloc (.cells #[.int .i64 id, .int .i64 s1, .int .i64 0, .int .i64 bb] 56) := ⟨_, rfl⟩
  have hm1 : Mod (fun _ => False) w w1 := by subst hw1; exact (Mod.refl _ w).alloc _
  have hx : Blk w1 w.heap.size #[.int .i64 id, .int .i64 s1, .int .i64 0, .int .i64 bb] 56 := by subst hw1; exact Blk.new w _ _
  have c31 := hm1.cell c3 (fun h => h)
  have hB1 := HB.out.mod hm1 (fun h => h) (fun h => h)
  rw [← hw1]
  clear hw1 hl c3
  have HB1 := Lib.hid hB1
  have hx0 := hx.cell 0; have hx1 := hx.cell 1; have hx2 := hx.cell 2; have hx3 := hx.cell 3
  clear hB1 hx
  refine wp_region_stages0 [0, 0, 0, 1, 0, 1, 2] (by kernel_rfl) (by kernel_rfl) ?_
  repeat (first | (refine stage_any (fun K hK => ?_); go_simp; refine hK _ _ ?_; clear hK K) | (refine stage_pin (fun K hK => ?_); go_simp; refine hK _ _ ?_; clear hK K))
  obtain ⟨D, hD⟩ : ∃ D : World → Prop, D = fun w' => BK w' b M lim ban most (putL ks id ⟨s1, 0, bb⟩) ∧ Mod (· = M) w w' := ⟨_, rfl⟩
  refine stage_eff_v (by rfl) undef D (eff_mapUpdate _ _ _ _ rfl (fun w' hw' => ?_)) (by subst hD; exact ⟨fun w n ⟨h1, h2⟩ => ⟨h1.drewN n, h2.drewN n⟩, fun _ _ => trivial⟩) ?_
  · obtain ⟨n, rfl⟩ := hw'
    have hb := HB1.out.drewN n
    obtain ⟨w2, hrun, him, hm2, hz2⟩ := hb.map.put Try.underlying3 Try.underlying52 (by rw [mp_len]; exact HLN.out) HI.out (rcv id ⟨s1, 0, bb⟩)
    refine ⟨w2, hrun, ?_⟩
    rw [hD]
    rw [put_mp] at him
    exact ⟨⟨hb.head.mod hm2 (fun e => hb.ne e.symm), him, hb.ne⟩, ((hm1.mono (fun _ _ h => h.elim)).drewN n).trans hm2⟩
  · refine stage_nil ?_
    intro w3 hw3
    rw [hD] at hw3
    obtain ⟨g1, g2⟩ := hw3
    clear hD
    go_wp2_with fail
    go_end0
    rw [HS1.out]
    exact ⟨rfl, g1, g2⟩

set_option maxRecDepth 100000 in
set_option maxHeartbeats 400000 in
theorem strGood0 (id : Int) (b M : Nat) (lim ban most : Int) (ks : List (Int × Rc)) (w : World) (hi : I64 id) (h : BK w b M lim ban most ks) (hr : ∀ r, lkL ks id = some r → r.u ≠ 0) :
    Calls Try.prog 13 #[.pointer (some ⟨b, 0, none⟩), .int .i64 id] w fun e w' => e = .returned (.tuple #[]) ∧ Mod (fun _ => False) w w' := by
  have c3 : w.cell? ⟨b, 3, none⟩ = some (.map (some M)) := h.head.cell 3
  have hl := h.map.lookOk Try.underlying3 Try.underlying52 (zeroKnown w) hi
  rw [lk_mp] at hl
  have hz := zeroKnown
  cases hk : lkL ks id with
  | none =>
    rw [hk] at hl
    simp only [Option.map_none, Option.getD_none, Option.isSome_none] at hl
    clear hi h hr hk
    go_enter Try.func13, Try.ntmps13
    go_wp2_with fail
    go_end0
    exact ⟨rfl, (Mod.refl _ w).alloc _⟩
  | some r =>
    have hu := hr r hk
    rw [hk] at hl
    simp only [Option.map_some, Option.getD_some, Option.isSome_some, rcv] at hl
    clear hi h hr hk
    obtain ⟨s, u, bb⟩ := r
    dsimp only at *
    have hu' : decide (u = 0) = false := by simpa using hu
    go_enter Try.func13, Try.ntmps13
    go_wp2_with fail
    go_end0
    exact ⟨rfl, (Mod.refl _ w).alloc _⟩

theorem h_lt {w : World} {b M : Nat} {lim ban most : Int} {ks : List (Int × Rc)} (h : BK w b M lim ban most ks) : b < w.heap.size := h.head.lt
/-- What a strike makes of a peer. -/
def struck (lim ban : Int) (r : Rc) (now by' : Int) : Rc :=
  let x : Rc := if 0 < r.u then ⟨0, 0, 0⟩ else r
  ⟨x.s + 1, if lim ≤ x.s + 1 then now + ban else x.u, x.b + by'⟩
set_option maxRecDepth 100000 in
set_option maxHeartbeats 1000000 in
theorem strStrikeA (id now by' s bb : Int) (b M : Nat) (lim ban most : Int) (ks : List (Int × Rc)) (w : World) (hi : 1 ≤ id) (hi2 : id ≤ 65536) (hn : 0 ≤ now) (hn2 : now ≤ 1099511627776) (hb : 0 ≤ by') (hb2 : by' ≤ 1048576) (h : BK w b M lim ban most ks) (hr : rd ks id = ⟨s, 0, bb⟩)
    (hs : 0 ≤ s) (hs2 : s ≤ 1000000) (hbb : 0 ≤ bb) (hbb2 : bb ≤ 1152921504606846976) (hban : 0 ≤ ban) (hban2 : ban ≤ 1048576)
    (hlen : ks.length < maxLen) (N : Rc) (hN : N = ⟨s + 1, if lim ≤ s + 1 then now + ban else 0, bb + by'⟩) (hmost : ((putL ks id N).length : Int) ≤ most) :
    Calls Try.prog 10 #[.pointer (some ⟨b, 0, none⟩), .int .i64 id, .int .i64 now, .int .i64 by'] w fun e w' =>
      e = .returned (.tuple #[.bool (decide (0 < N.u)), .int .i64 0]) ∧ BK w' b M lim ban most (putL ks id N) ∧ Mod (· = M) w w' := by
  have e1 : (decide (1 ≤ id) && decide (id ≤ 65536)) = true := by simp [hi, hi2]
  have e2 : (decide (0 ≤ now) && decide (now ≤ 1099511627776)) = true := by simp [hn, hn2]
  have e3 : (decide (0 ≤ by') && decide (by' ≤ 1048576)) = true := by simp [hb, hb2]
  have hI : I64 id := by show (Lit.int .i64 id).wf = true; simp [Lit.wf, IntKind.min, IntKind.max, IntKind.signed, IntKind.bits]; omega
  have hnb : bnd ks id now = false := by unfold bnd; rw [hr]; rfl
  have c3 : w.cell? ⟨b, 3, none⟩ = some (.map (some M)) := h.head.cell 3
  have c0 : w.cell? ⟨b, 0, none⟩ = some (.int .i64 lim) := h.head.cell 0
  have c1 : w.cell? ⟨b, 1, none⟩ = some (.int .i64 ban) := h.head.cell 1
  have c2 : w.cell? ⟨b, 2, none⟩ = some (.int .i64 most) := h.head.cell 2
  have hl := h.map.look Try.underlying3 Try.underlying52 (zeroKnown w) hI
  rw [at_mp, hr] at hl
  dsimp only at hl
  have hz := zeroKnown
  have HB := Lib.hid h
  have HI := Lib.hid hI
  have HLN := Lib.hid hlen
  have HM := Lib.hid hmost
  have HN := Lib.hid hN
  generalize idf ks id = i at hl
  clear h hlen hmost hI hr hN
  have hlw := h_lt HB.out
  by_cases hlim : lim ≤ s + 1
  · go_enter Try.func10, Try.ntmps10
    go_wp2_with fail
    refine (strWithin _ _ _ _).mono ?_; rw [e1]; rintro e w' ⟨rfl, rfl⟩
    go_wp2_with fail
    refine (strWithin _ _ _ _).mono ?_; rw [e2]; rintro e w' ⟨rfl, rfl⟩
    go_wp2_with fail
    refine (strWithin _ _ _ _).mono ?_; rw [e3]; rintro e w' ⟨rfl, rfl⟩
    go_wp2_with fail
    refine (strBanned _ _ _ _ _ _ _ _ _ HI.out HB.out).mono ?_; rw [hnb]; rintro e w' ⟨rfl, rfl⟩
    clear e1 e2 e3 hnb
    go_wp2_with fail
    go_quiet (fail)
    go_wp2_with fail
    generalize hw1 : World.setCell (World.drewN (w.alloc _) nq) ⟨w.heap.size, 2, none⟩ _ = w1
    have hm1 : Mod (fun _ => False) w w1 := by subst hw1; exact (((Mod.refl _ w).alloc _).drewN _).setCell (.inr (Nat.le_refl _)) _
    have hx : Blk w1 w.heap.size #[.int .i64 id, .int .i64 (s + 1), .int .i64 (now + ban), .int .i64 (bb + by')] 56 := by subst hw1; exact ((Blk.new w _ _).drewN _).set 2 _
    have hNN : N = ⟨s + 1, now + ban, bb + by'⟩ := by rw [HN.out, if_pos hlim]
    have HNN := Lib.hid hNN
    have c31 := hm1.cell c3 (fun h => h)
    have HB1 : Hid (BK w1 b M lim ban most ks) := HB.out.mod hm1 (fun h => h) (fun h => h)
    have hx0 := hx.cell 0; have hx1 := hx.cell 1; have hx2 := hx.cell 2; have hx3 := hx.cell 3
    clear hw1 hl c3 c0 c1 c2 hx hNN
    refine wp_region_stages0 [0, 0, 0, 1, 0, 1, 2] (by kernel_rfl) (by kernel_rfl) ?_
    repeat (first | (refine stage_any (fun K hK => ?_); go_simp; refine hK _ _ ?_; clear hK K) | (refine stage_pin (fun K hK => ?_); go_simp; refine hK _ _ ?_; clear hK K))
    obtain ⟨D, hD⟩ : ∃ D : World → Prop, D = fun w' => BK w' b M lim ban most (putL ks id N) ∧ Mod (· = M) w w' := ⟨_, rfl⟩
    refine stage_eff_v (by rfl) undef D (eff_mapUpdate _ _ _ _ rfl (fun w' hw' => ?_)) (by subst hD; exact ⟨fun w n ⟨h1, h2⟩ => ⟨h1.drewN n, h2.drewN n⟩, fun _ _ => trivial⟩) ?_
    · obtain ⟨n, rfl⟩ := hw'
      have hb := HB1.out.drewN n
      obtain ⟨w2, hrun, him, hm2, hz2⟩ := hb.map.put Try.underlying3 Try.underlying52 (by rw [mp_len]; exact HLN.out) HI.out (rcv id N)
      refine ⟨w2, by rw [HNN.out] at hrun; exact hrun, ?_⟩
      rw [hD]
      rw [put_mp] at him
      exact ⟨⟨hb.head.mod hm2 (fun e => hb.ne e.symm), him, hb.ne⟩, ((hm1.mono (fun _ _ h => h.elim)).drewN n).trans hm2⟩
    · refine stage_nil ?_
      intro w3 hw3
      rw [hD] at hw3
      obtain ⟨g1, g2⟩ := hw3
      have c33 : w3.cell? ⟨b, 3, none⟩ = some (.map (some M)) := g1.head.cell 3
      have c32 : w3.cell? ⟨b, 2, none⟩ = some (.int .i64 most) := g1.head.cell 2
      have hlen : ∀ n, (Builtin.len_ #[52] 3 #[.map (some M)]).run Try.prog (w3.drewN n) = .ok (.int .i64 ((putL ks id N).length : Int)) (w3.drewN n) := by
        intro n
        have := (g1.drewN n).map.len (T := 52) Try.underlying52 3
        rw [mp_len] at this
        exact this
      have hlk : ∀ n, (Instr.lookup 52 (.map (some M)) (.int .i64 id) false).run Try.prog (w3.drewN n) = .ok (.agg #[.int .i64 id, .int .i64 N.s, .int .i64 N.u, .int .i64 N.b]) (w3.drewN n) := by
        intro n
        have := (g1.drewN n).map.look Try.underlying3 Try.underlying52 (zeroKnown _) HI.out
        rw [lk_mp, lk_put, if_pos rfl] at this
        exact this
      have G := Lib.hid g1
      have hmm := HM.out
      generalize ((putL ks id N).length : Int) = L at hlen hmm
      have hml : ¬ most < L := by omega
      clear hD g1 hmm hx0 hx1 hx2 hx3 hm1 c31
      go_wp2_with fail
      go_quiet (fail)
      go_wp2_with fail
      go_ret2
      exact ⟨rfl, G.out.drewN _, g2.drewN _⟩
  · go_enter Try.func10, Try.ntmps10
    go_wp2_with fail
    refine (strWithin _ _ _ _).mono ?_; rw [e1]; rintro e w' ⟨rfl, rfl⟩
    go_wp2_with fail
    refine (strWithin _ _ _ _).mono ?_; rw [e2]; rintro e w' ⟨rfl, rfl⟩
    go_wp2_with fail
    refine (strWithin _ _ _ _).mono ?_; rw [e3]; rintro e w' ⟨rfl, rfl⟩
    go_wp2_with fail
    refine (strBanned _ _ _ _ _ _ _ _ _ HI.out HB.out).mono ?_; rw [hnb]; rintro e w' ⟨rfl, rfl⟩
    clear e1 e2 e3 hnb
    go_wp2_with fail
    go_quiet (fail)
    go_wp2_with fail
    generalize hw1 : World.drewN (w.alloc _) nq = w1
    have hm1 : Mod (fun _ => False) w w1 := by subst hw1; exact ((Mod.refl _ w).alloc _).drewN _
    have hx : Blk w1 w.heap.size #[.int .i64 id, .int .i64 (s + 1), .int .i64 0, .int .i64 (bb + by')] 56 := by subst hw1; exact (Blk.new w _ _).drewN _
    have hNN : N = ⟨s + 1, 0, bb + by'⟩ := by rw [HN.out, if_neg (by omega)]
    have HNN := Lib.hid hNN
    have c31 := hm1.cell c3 (fun h => h)
    have HB1 : Hid (BK w1 b M lim ban most ks) := HB.out.mod hm1 (fun h => h) (fun h => h)
    have hx0 := hx.cell 0; have hx1 := hx.cell 1; have hx2 := hx.cell 2; have hx3 := hx.cell 3
    clear hw1 hl c3 c0 c1 c2 hx hNN
    refine wp_region_stages0 [0, 0, 0, 1, 0, 1, 2] (by kernel_rfl) (by kernel_rfl) ?_
    repeat (first | (refine stage_any (fun K hK => ?_); go_simp; refine hK _ _ ?_; clear hK K) | (refine stage_pin (fun K hK => ?_); go_simp; refine hK _ _ ?_; clear hK K))
    obtain ⟨D, hD⟩ : ∃ D : World → Prop, D = fun w' => BK w' b M lim ban most (putL ks id N) ∧ Mod (· = M) w w' := ⟨_, rfl⟩
    refine stage_eff_v (by rfl) undef D (eff_mapUpdate _ _ _ _ rfl (fun w' hw' => ?_)) (by subst hD; exact ⟨fun w n ⟨h1, h2⟩ => ⟨h1.drewN n, h2.drewN n⟩, fun _ _ => trivial⟩) ?_
    · obtain ⟨n, rfl⟩ := hw'
      have hb := HB1.out.drewN n
      obtain ⟨w2, hrun, him, hm2, hz2⟩ := hb.map.put Try.underlying3 Try.underlying52 (by rw [mp_len]; exact HLN.out) HI.out (rcv id N)
      refine ⟨w2, by rw [HNN.out] at hrun; exact hrun, ?_⟩
      rw [hD]
      rw [put_mp] at him
      exact ⟨⟨hb.head.mod hm2 (fun e => hb.ne e.symm), him, hb.ne⟩, ((hm1.mono (fun _ _ h => h.elim)).drewN n).trans hm2⟩
    · refine stage_nil ?_
      intro w3 hw3
      rw [hD] at hw3
      obtain ⟨g1, g2⟩ := hw3
      have c33 : w3.cell? ⟨b, 3, none⟩ = some (.map (some M)) := g1.head.cell 3
      have c32 : w3.cell? ⟨b, 2, none⟩ = some (.int .i64 most) := g1.head.cell 2
      have hlen : ∀ n, (Builtin.len_ #[52] 3 #[.map (some M)]).run Try.prog (w3.drewN n) = .ok (.int .i64 ((putL ks id N).length : Int)) (w3.drewN n) := by
        intro n
        have := (g1.drewN n).map.len (T := 52) Try.underlying52 3
        rw [mp_len] at this
        exact this
      have hlk : ∀ n, (Instr.lookup 52 (.map (some M)) (.int .i64 id) false).run Try.prog (w3.drewN n) = .ok (.agg #[.int .i64 id, .int .i64 N.s, .int .i64 N.u, .int .i64 N.b]) (w3.drewN n) := by
        intro n
        have := (g1.drewN n).map.look Try.underlying3 Try.underlying52 (zeroKnown _) HI.out
        rw [lk_mp, lk_put, if_pos rfl] at this
        exact this
      have G := Lib.hid g1
      have hmm := HM.out
      generalize ((putL ks id N).length : Int) = L at hlen hmm
      have hml : ¬ most < L := by omega
      clear hD g1 hmm hx0 hx1 hx2 hx3 hm1 c31
      go_wp2_with fail
      go_quiet (fail)
      go_wp2_with fail
      go_ret2
      exact ⟨rfl, G.out.drewN _, g2.drewN _⟩

set_option maxRecDepth 100000 in
set_option maxHeartbeats 1000000 in
theorem strStrikeB (id now by' s u bb : Int) (b M : Nat) (lim ban most : Int) (ks : List (Int × Rc)) (w : World) (hi : 1 ≤ id) (hi2 : id ≤ 65536) (hn : 0 ≤ now) (hn2 : now ≤ 1099511627776) (hb : 0 ≤ by') (hb2 : by' ≤ 1048576) (h : BK w b M lim ban most ks) (hr : rd ks id = ⟨s, u, bb⟩) (hu : 0 < u) (hnb : bnd ks id now = false)
    (hban : 0 ≤ ban) (hban2 : ban ≤ 1048576)
    (hlen : ks.length < maxLen) (N : Rc) (hN : N = ⟨1, if lim ≤ 1 then now + ban else 0, by'⟩) (hmost : ((putL ks id N).length : Int) ≤ most) :
    Calls Try.prog 10 #[.pointer (some ⟨b, 0, none⟩), .int .i64 id, .int .i64 now, .int .i64 by'] w fun e w' =>
      e = .returned (.tuple #[.bool (decide (0 < N.u)), .int .i64 0]) ∧ BK w' b M lim ban most (putL ks id N) ∧ Mod (· = M) w w' := by
  have e1 : (decide (1 ≤ id) && decide (id ≤ 65536)) = true := by simp [hi, hi2]
  have e2 : (decide (0 ≤ now) && decide (now ≤ 1099511627776)) = true := by simp [hn, hn2]
  have e3 : (decide (0 ≤ by') && decide (by' ≤ 1048576)) = true := by simp [hb, hb2]
  have hI : I64 id := by show (Lit.int .i64 id).wf = true; simp [Lit.wf, IntKind.min, IntKind.max, IntKind.signed, IntKind.bits]; omega
  have c3 : w.cell? ⟨b, 3, none⟩ = some (.map (some M)) := h.head.cell 3
  have c0 : w.cell? ⟨b, 0, none⟩ = some (.int .i64 lim) := h.head.cell 0
  have c1 : w.cell? ⟨b, 1, none⟩ = some (.int .i64 ban) := h.head.cell 1
  have c2 : w.cell? ⟨b, 2, none⟩ = some (.int .i64 most) := h.head.cell 2
  have hl := h.map.look Try.underlying3 Try.underlying52 (zeroKnown w) hI
  rw [at_mp, hr] at hl
  dsimp only at hl
  have hz := zeroKnown
  have HB := Lib.hid h
  have HI := Lib.hid hI
  have HLN := Lib.hid hlen
  have HM := Lib.hid hmost
  have HN := Lib.hid hN
  generalize idf ks id = i at hl
  clear h hlen hmost hI hr hN
  have hlw := h_lt HB.out
  by_cases hlim : lim ≤ 1
  · go_enter Try.func10, Try.ntmps10
    go_wp2_with fail
    refine (strWithin _ _ _ _).mono ?_; rw [e1]; rintro e w' ⟨rfl, rfl⟩
    go_wp2_with fail
    refine (strWithin _ _ _ _).mono ?_; rw [e2]; rintro e w' ⟨rfl, rfl⟩
    go_wp2_with fail
    refine (strWithin _ _ _ _).mono ?_; rw [e3]; rintro e w' ⟨rfl, rfl⟩
    go_wp2_with fail
    refine (strBanned _ _ _ _ _ _ _ _ _ HI.out HB.out).mono ?_; rw [hnb]; rintro e w' ⟨rfl, rfl⟩
    clear e1 e2 e3 hnb
    go_wp2_with fail
    go_quiet (fail)
    go_wp2_with fail
    generalize hw1 : World.setCell (World.drewN (w.alloc _) nq) ⟨w.heap.size, 2, none⟩ _ = w1
    have hm1 : Mod (fun _ => False) w w1 := by subst hw1; exact (((Mod.refl _ w).alloc _).drewN _).setCell (.inr (Nat.le_refl _)) _
    have hx : Blk w1 w.heap.size #[.int .i64 id, .int .i64 1, .int .i64 (now + ban), .int .i64 by'] 56 := by subst hw1; exact ((Blk.new w _ _).drewN _).set 2 _
    have hNN : N = ⟨1, now + ban, by'⟩ := by rw [HN.out, if_pos hlim]
    have HNN := Lib.hid hNN
    have c31 := hm1.cell c3 (fun h => h)
    have HB1 : Hid (BK w1 b M lim ban most ks) := HB.out.mod hm1 (fun h => h) (fun h => h)
    have hx0 := hx.cell 0; have hx1 := hx.cell 1; have hx2 := hx.cell 2; have hx3 := hx.cell 3
    clear hw1 hl c3 c0 c1 c2 hx hNN
    refine wp_region_stages0 [0, 0, 0, 1, 0, 1, 2] (by kernel_rfl) (by kernel_rfl) ?_
    repeat (first | (refine stage_any (fun K hK => ?_); go_simp; refine hK _ _ ?_; clear hK K) | (refine stage_pin (fun K hK => ?_); go_simp; refine hK _ _ ?_; clear hK K))
    obtain ⟨D, hD⟩ : ∃ D : World → Prop, D = fun w' => BK w' b M lim ban most (putL ks id N) ∧ Mod (· = M) w w' := ⟨_, rfl⟩
    refine stage_eff_v (by rfl) undef D (eff_mapUpdate _ _ _ _ rfl (fun w' hw' => ?_)) (by subst hD; exact ⟨fun w n ⟨h1, h2⟩ => ⟨h1.drewN n, h2.drewN n⟩, fun _ _ => trivial⟩) ?_
    · obtain ⟨n, rfl⟩ := hw'
      have hb := HB1.out.drewN n
      obtain ⟨w2, hrun, him, hm2, hz2⟩ := hb.map.put Try.underlying3 Try.underlying52 (by rw [mp_len]; exact HLN.out) HI.out (rcv id N)
      refine ⟨w2, by rw [HNN.out] at hrun; exact hrun, ?_⟩
      rw [hD]
      rw [put_mp] at him
      exact ⟨⟨hb.head.mod hm2 (fun e => hb.ne e.symm), him, hb.ne⟩, ((hm1.mono (fun _ _ h => h.elim)).drewN n).trans hm2⟩
    · refine stage_nil ?_
      intro w3 hw3
      rw [hD] at hw3
      obtain ⟨g1, g2⟩ := hw3
      have c33 : w3.cell? ⟨b, 3, none⟩ = some (.map (some M)) := g1.head.cell 3
      have c32 : w3.cell? ⟨b, 2, none⟩ = some (.int .i64 most) := g1.head.cell 2
      have hlen : ∀ n, (Builtin.len_ #[52] 3 #[.map (some M)]).run Try.prog (w3.drewN n) = .ok (.int .i64 ((putL ks id N).length : Int)) (w3.drewN n) := by
        intro n
        have := (g1.drewN n).map.len (T := 52) Try.underlying52 3
        rw [mp_len] at this
        exact this
      have hlk : ∀ n, (Instr.lookup 52 (.map (some M)) (.int .i64 id) false).run Try.prog (w3.drewN n) = .ok (.agg #[.int .i64 id, .int .i64 N.s, .int .i64 N.u, .int .i64 N.b]) (w3.drewN n) := by
        intro n
        have := (g1.drewN n).map.look Try.underlying3 Try.underlying52 (zeroKnown _) HI.out
        rw [lk_mp, lk_put, if_pos rfl] at this
        exact this
      have G := Lib.hid g1
      have hmm := HM.out
      generalize ((putL ks id N).length : Int) = L at hlen hmm
      have hml : ¬ most < L := by omega
      clear hD g1 hmm hx0 hx1 hx2 hx3 hm1 c31
      go_wp2_with fail
      go_quiet (fail)
      go_wp2_with fail
      go_ret2
      exact ⟨rfl, G.out.drewN _, g2.drewN _⟩
  · go_enter Try.func10, Try.ntmps10
    go_wp2_with fail
    refine (strWithin _ _ _ _).mono ?_; rw [e1]; rintro e w' ⟨rfl, rfl⟩
    go_wp2_with fail
    refine (strWithin _ _ _ _).mono ?_; rw [e2]; rintro e w' ⟨rfl, rfl⟩
    go_wp2_with fail
    refine (strWithin _ _ _ _).mono ?_; rw [e3]; rintro e w' ⟨rfl, rfl⟩
    go_wp2_with fail
    refine (strBanned _ _ _ _ _ _ _ _ _ HI.out HB.out).mono ?_; rw [hnb]; rintro e w' ⟨rfl, rfl⟩
    clear e1 e2 e3 hnb
    go_wp2_with fail
    go_quiet (fail)
    go_wp2_with fail
    generalize hw1 : World.drewN (w.alloc _) nq = w1
    have hm1 : Mod (fun _ => False) w w1 := by subst hw1; exact ((Mod.refl _ w).alloc _).drewN _
    have hx : Blk w1 w.heap.size #[.int .i64 id, .int .i64 1, .int .i64 0, .int .i64 by'] 56 := by subst hw1; exact (Blk.new w _ _).drewN _
    have hNN : N = ⟨1, 0, by'⟩ := by rw [HN.out, if_neg (by omega)]
    have HNN := Lib.hid hNN
    have c31 := hm1.cell c3 (fun h => h)
    have HB1 : Hid (BK w1 b M lim ban most ks) := HB.out.mod hm1 (fun h => h) (fun h => h)
    have hx0 := hx.cell 0; have hx1 := hx.cell 1; have hx2 := hx.cell 2; have hx3 := hx.cell 3
    clear hw1 hl c3 c0 c1 c2 hx hNN
    refine wp_region_stages0 [0, 0, 0, 1, 0, 1, 2] (by kernel_rfl) (by kernel_rfl) ?_
    repeat (first | (refine stage_any (fun K hK => ?_); go_simp; refine hK _ _ ?_; clear hK K) | (refine stage_pin (fun K hK => ?_); go_simp; refine hK _ _ ?_; clear hK K))
    obtain ⟨D, hD⟩ : ∃ D : World → Prop, D = fun w' => BK w' b M lim ban most (putL ks id N) ∧ Mod (· = M) w w' := ⟨_, rfl⟩
    refine stage_eff_v (by rfl) undef D (eff_mapUpdate _ _ _ _ rfl (fun w' hw' => ?_)) (by subst hD; exact ⟨fun w n ⟨h1, h2⟩ => ⟨h1.drewN n, h2.drewN n⟩, fun _ _ => trivial⟩) ?_
    · obtain ⟨n, rfl⟩ := hw'
      have hb := HB1.out.drewN n
      obtain ⟨w2, hrun, him, hm2, hz2⟩ := hb.map.put Try.underlying3 Try.underlying52 (by rw [mp_len]; exact HLN.out) HI.out (rcv id N)
      refine ⟨w2, by rw [HNN.out] at hrun; exact hrun, ?_⟩
      rw [hD]
      rw [put_mp] at him
      exact ⟨⟨hb.head.mod hm2 (fun e => hb.ne e.symm), him, hb.ne⟩, ((hm1.mono (fun _ _ h => h.elim)).drewN n).trans hm2⟩
    · refine stage_nil ?_
      intro w3 hw3
      rw [hD] at hw3
      obtain ⟨g1, g2⟩ := hw3
      have c33 : w3.cell? ⟨b, 3, none⟩ = some (.map (some M)) := g1.head.cell 3
      have c32 : w3.cell? ⟨b, 2, none⟩ = some (.int .i64 most) := g1.head.cell 2
      have hlen : ∀ n, (Builtin.len_ #[52] 3 #[.map (some M)]).run Try.prog (w3.drewN n) = .ok (.int .i64 ((putL ks id N).length : Int)) (w3.drewN n) := by
        intro n
        have := (g1.drewN n).map.len (T := 52) Try.underlying52 3
        rw [mp_len] at this
        exact this
      have hlk : ∀ n, (Instr.lookup 52 (.map (some M)) (.int .i64 id) false).run Try.prog (w3.drewN n) = .ok (.agg #[.int .i64 id, .int .i64 N.s, .int .i64 N.u, .int .i64 N.b]) (w3.drewN n) := by
        intro n
        have := (g1.drewN n).map.look Try.underlying3 Try.underlying52 (zeroKnown _) HI.out
        rw [lk_mp, lk_put, if_pos rfl] at this
        exact this
      have G := Lib.hid g1
      have hmm := HM.out
      generalize ((putL ks id N).length : Int) = L at hlen hmm
      have hml : ¬ most < L := by omega
      clear hD g1 hmm hx0 hx1 hx2 hx3 hm1 c31
      go_wp2_with fail
      go_quiet (fail)
      go_wp2_with fail
      go_ret2
      exact ⟨rfl, G.out.drewN _, g2.drewN _⟩
end Go.Proofs.Ytiabjaaamgjlnaa
