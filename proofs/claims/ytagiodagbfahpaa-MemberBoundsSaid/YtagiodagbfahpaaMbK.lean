/- Package member: turn, Fail, All; no condition. -/
import Derived.Test.YtagiodagbfahpaaMbH
namespace Go.Proofs.Ytagiodagbfahpaa
open Go Go.RowKit

/-- What turn leaves. -/
def turnK (ks : List (Int × Rc)) (id st now : Int) : List (Int × Rc) := match lkL ks id with
  | some r => putL ks id ⟨r.s, st, now⟩
  | none => ks
set_option maxRecDepth 100000 in
set_option maxHeartbeats 1000000 in
theorem memTurn (id st now : Int) (r : Rc) (b M : Nat) (S : Int × Rc) (most : Int) (ks : List (Int × Rc)) (w : World) (h : VW w b M S most ks) (hi : I64 id) (hr : lkL ks id = some r) (hlen : ks.length < maxLen) :
    Calls Try.prog 32 #[.pointer (some ⟨b, 0, none⟩), .int .i64 id, .int .i64 st, .int .i64 now] w fun e w' => e = .returned (.tuple #[]) ∧ VW w' b M S most (putL ks id ⟨r.s, st, now⟩) ∧ Mod (· = M) w w' := by
  have c3 : w.cell? ⟨b, 5, none⟩ = some (.map (some M)) := h.head.cell 5
  have hl := h.map.look Try.underlying3 Try.underlying64 (zeroKnown w) hi
  rw [lk_mp, hr] at hl
  simp only [Option.map_some, Option.getD_some, rcv] at hl
  have hz := zeroKnown
  have HB := Lib.hid h
  have HI := Lib.hid hi
  have HLN := Lib.hid hlen
  clear hi h hr hlen
  obtain ⟨s, u, bb⟩ := r
  dsimp only at *
  go_enter Try.func32, Try.ntmps32
  go_wp2_with fail
  obtain ⟨w1, hw1⟩ : ∃ w1, w1 = w.alloc (.cells #[.int .i64 id, .int .i64 s, .int .i64 st, .int .i64 now] 29) := ⟨_, rfl⟩
  have hm1 : Mod (fun _ => False) w w1 := by subst hw1; exact (Mod.refl _ w).alloc _
  have hx : Blk w1 w.heap.size #[.int .i64 id, .int .i64 s, .int .i64 st, .int .i64 now] 29 := by subst hw1; exact Blk.new w _ _
  have c31 := hm1.cell c3 (fun h => h)
  have hB1 := HB.out.new hm1
  rw [← hw1]
  clear hw1 hl c3
  have HB1 := Lib.hid hB1
  have hx0 := hx.cell 0; have hx1 := hx.cell 1; have hx2 := hx.cell 2; have hx3 := hx.cell 3
  clear hB1 hx
  refine wp_region_stages0 [0, 0, 0, 1, 0, 1, 2] (by kernel_rfl) (by kernel_rfl) ?_
  repeat (first | (refine stage_any (fun K hK => ?_); go_simp; refine hK _ _ ?_; clear hK K) | (refine stage_pin (fun K hK => ?_); go_simp; refine hK _ _ ?_; clear hK K))
  obtain ⟨D, hD⟩ : ∃ D : World → Prop, D = fun w' => VW w' b M S most (putL ks id ⟨s, st, now⟩) ∧ Mod (· = M) w w' := ⟨_, rfl⟩
  refine stage_eff_v (by rfl) undef D (eff_mapUpdate _ _ _ _ rfl (fun w' hw' => ?_)) (by subst hD; exact ⟨fun w n ⟨h1, h2⟩ => ⟨h1.drewN n, h2.drewN n⟩, fun _ _ => trivial⟩) ?_
  · obtain ⟨n, rfl⟩ := hw'
    have hb := HB1.out.drewN n
    obtain ⟨w2, hrun, him, hm2, hz2⟩ := hb.map.put Try.underlying3 Try.underlying64 (by rw [mp_len]; exact HLN.out) HI.out (rcv id ⟨s, st, now⟩)
    refine ⟨w2, hrun, ?_⟩
    rw [hD]
    rw [put_mp] at him
    exact ⟨⟨hb.head.mod hm2 (fun e => hb.ne e.symm), him, hb.ne⟩, ((hm1.mono (fun _ _ h => h.elim)).drewN n).trans hm2⟩
  · refine stage_nil ?_
    intro w3 hw3
    rw [hD] at hw3
    obtain ⟨g1, g2⟩ := hw3
    clear hD
    go_wp2_with fail
    go_end0
    exact ⟨rfl, g1, g2⟩

/-- What Fail tells, and leaves. -/
def failR (ks : List (Int × Rc)) (id now : Int) : Bool × Int := if 0 ≤ now ∧ now ≤ 1099511627776 then (match lkL ks id with
  | some r => (r.u == 1, 0)
  | none => (false, 4)) else (false, 1)
def failK (ks : List (Int × Rc)) (id now : Int) : List (Int × Rc) := if 0 ≤ now ∧ now ≤ 1099511627776 then (match lkL ks id with
  | some r => if r.u = 1 then putL ks id ⟨r.s, 2, now⟩ else ks
  | none => ks) else ks
set_option maxRecDepth 100000 in
set_option maxHeartbeats 1000000 in
theorem memFail (id now : Int) (b M : Nat) (S : Int × Rc) (most : Int) (ks : List (Int × Rc)) (w : World) (h : VW w b M S most ks) (hi : I64 id) (hlen : ks.length ≤ 1000) :
    Calls Try.prog 18 #[.pointer (some ⟨b, 0, none⟩), .int .i64 id, .int .i64 now] w fun e w' => e = .returned (.tuple #[.bool (failR ks id now).1, .int .i64 (failR ks id now).2]) ∧ VW w' b M S most (failK ks id now) ∧ Mod (· = M) w w' := by
  have c3 : w.cell? ⟨b, 5, none⟩ = some (.map (some M)) := h.head.cell 5
  have hl := h.map.lookOk Try.underlying3 Try.underlying64 (zeroKnown w) hi
  have hz := zeroKnown
  have HB := Lib.hid h
  have HI := Lib.hid hi
  by_cases hn : 0 ≤ now ∧ now ≤ 1099511627776
  · have e1 := in_yes hn
    cases hk : lkL ks id with
    | none =>
      have hR : failR ks id now = (false, 4) := by unfold failR; rw [if_pos hn, hk]
      have hK : failK ks id now = ks := by unfold failK; rw [if_pos hn, hk]
      rw [lk_mp, hk] at hl
      simp only [Option.map_none, Option.getD_none, Option.isSome_none] at hl
      rw [hR, hK]
      have m1 := (Mod.refl (fun _ => False) w).alloc (.cells #[.int .i64 0, .int .i64 0, .int .i64 0, .int .i64 0] TMb)
      clear h hi hk hn hR hK
      go_enter Try.func18, Try.ntmps18
      go_wp2_with fail
      refine (memWithin _ _ _ _).mono ?_; rw [e1]; rintro e w' ⟨rfl, rfl⟩
      go_wp2_with fail
      go_ret2
      exact ⟨rfl, HB.out.new m1, m1.mono (fun _ _ h => h.elim)⟩
    | some r =>
      have HTN := Lib.hid (fun w' (hv : VW w' b M S most ks) => memTurn id 2 now r b M S most ks w' hv hi hk (by unfold maxLen; omega))
      rw [lk_mp, hk] at hl
      simp only [Option.map_some, Option.getD_some, Option.isSome_some, rcv] at hl
      obtain ⟨s, u, bb⟩ := r
      dsimp only at hl HTN
      have m1 := (Mod.refl (fun _ => False) w).alloc (.cells #[.int .i64 id, .int .i64 s, .int .i64 u, .int .i64 bb] TMb)
      by_cases hu : u = 1
      · have hR : failR ks id now = (true, 0) := by unfold failR; rw [if_pos hn, hk]; simp [hu]
        have hK : failK ks id now = putL ks id ⟨s, 2, now⟩ := by unfold failK; rw [if_pos hn, hk]; simp only; rw [if_pos hu]
        rw [hR, hK]
        subst hu
        clear h hi hk hn hR hK
        go_enter Try.func18, Try.ntmps18
        go_wp2_with fail
        refine (memWithin _ _ _ _).mono ?_; rw [e1]; rintro e w' ⟨rfl, rfl⟩
        go_wp2_with fail
        refine (HTN.out _ (HB.out.new m1)).mono ?_; rintro e w2 ⟨rfl, v2, m2⟩
        go_wp2_with fail
        go_ret2
        exact ⟨rfl, v2, (m1.mono (fun _ _ h => h.elim)).trans m2⟩
      · have hR : failR ks id now = (false, 0) := by unfold failR; rw [if_pos hn, hk]; simp [hu]
        have hK : failK ks id now = ks := by unfold failK; rw [if_pos hn, hk]; simp only; rw [if_neg hu]
        rw [hR, hK]
        have hu' : (u == 1) = false := by simpa using hu
        have hu2 : (u != 1) = true := by simpa using hu
        clear h hi hk hn hR hK hu
        go_enter Try.func18, Try.ntmps18
        go_wp2_with fail
        refine (memWithin _ _ _ _).mono ?_; rw [e1]; rintro e w' ⟨rfl, rfl⟩
        go_wp2_with fail
        go_ret2
        exact ⟨rfl, HB.out.new m1, m1.mono (fun _ _ h => h.elim)⟩
  · have e1 := in_no hn
    have hR : failR ks id now = (false, 1) := by unfold failR; rw [if_neg hn]
    have hK : failK ks id now = ks := by unfold failK; rw [if_neg hn]
    have hsome : (lkL (mp ks) id).isSome = (lkL ks id).isSome := by rw [lk_mp]; cases lkL ks id <;> rfl
    rw [at_mp, hsome] at hl
    rw [hR, hK]
    generalize idf ks id = ri at hl
    generalize rd ks id = r at hl
    generalize (lkL ks id).isSome = o at hl
    have m1 := (Mod.refl (fun _ => False) w).alloc (.cells #[.int .i64 ri, .int .i64 r.s, .int .i64 r.u, .int .i64 r.b] TMb)
    clear h hi hn hR hK hsome
    go_enter Try.func18, Try.ntmps18
    go_wp2_with fail
    refine (memWithin _ _ _ _).mono ?_; rw [e1]; rintro e w' ⟨rfl, rfl⟩
    go_wp2_with fail
    go_ret2
    exact ⟨rfl, HB.out.new m1, m1.mono (fun _ _ h => h.elim)⟩

set_option maxRecDepth 100000 in
set_option maxHeartbeats 2000000 in
theorem memAll (b M : Nat) (S : Int × Rc) (most : Int) (ks : List (Int × Rc)) (w : World) (h : VW w b M S most ks) (hlen : ks.length ≤ 1000) (hI : ∀ q ∈ ks, I64 q.1) :
    Calls Try.prog 17 #[.pointer (some ⟨b, 0, none⟩)] w fun e w' => (∃ v, e = .returned v ∧ w'.ownsRow w.heap.size TMb 4 v ks.length (recL ks)) ∧ Mod (fun _ => False) w w' := by
  have c3 : w.cell? ⟨b, 5, none⟩ = some (.map (some M)) := h.head.cell 5
  have hk := Try.maps_Keys_31 (some M) w
  have hs := Try.slices_Sorted_keys_31 M _ (toD (mp ks)) RV w h.map.owns (by rw [size_toD, mp_len]; unfold maxLen; omega) (by rw [size_toD, mp_len]; omega)
  have HK := Lib.hid hk
  have HS := Lib.hid hs
  have HR := Lib.hid h.map.rising
  have HRI := Lib.hid (rising_mp.1 h.map.rising)
  have H := Lib.hid h
  have HI := Lib.hid hI
  clear h hk hs hI
  go_enter Try.func17, Try.ntmps17
  go_wp2_with fail
  refine HK.out.mono ?_; rintro e w1 ⟨rfl, rfl⟩
  go_wp2_with fail
  refine HS.out.mono ?_; rintro e w2 hq
  have hq2 := IntsP.of_sorted HR.out ((Mod.refl (fun _ => False) w).alloc _) hq
  obtain ⟨v, rfl, o, m⟩ := hq2
  rw [keys_mp] at o
  have M2 := Lib.hid m
  have HV2 := Lib.hid (H.out.new m)
  obtain ⟨ol, o2⟩ := o
  rw [keys_len] at o2
  rcases o2 with ⟨rfl, hn⟩ | ⟨g, cap, cur, rfl, hg, hh, hcap, _, _, htk⟩
  · have hks : ks = [] := by simpa using hn
    subst hks
    clear ol hn m hq
    go_wp2_with fail
    go_loopw [3, 5, 13] (fun v x i wr => v = .slice none 0 0 ∧ i = .int .i64 0 ∧ wr = w2) (fun _ _ _ _ => 0)
    case atStart => exact ⟨rfl, rfl, rfl⟩
    case round =>
      obtain ⟨rfl, rfl, rfl⟩ := hrel
      go_wp2_with fail
      go_ret
      exact ⟨⟨_, rfl, World.ownsRow_nil _ _ _ _⟩, M2.out⟩
  · have hc : ∀ (k : Nat) (q : Int × Rc), ks[k]? = some q → w2.cell? ⟨g, k, none⟩ = some (.int .i64 q.1) := by
      intro k q hk
      have hlt : k < ks.length := (List.getElem?_eq_some_iff.1 hk).1
      have h1 := (show Blk w2 g cur _ from hh).cell k
      rw [h1, ← Array.getElem?_toList]
      have h2 := congrArg (fun l => l[k]?) htk
      simp only [List.getElem?_take] at h2
      rw [if_pos (by omega)] at h2
      rw [h2]
      simp [keysL, hk]
    have HC := Lib.hid hc
    have hbd : ks.length ≤ cap := hcap
    have hbw : b < w2.heap.size := HV2.out.lt.1
    clear ol hh hcap htk m hc hg hq
    go_wp2_with fail
    go_loopw [3, 5, 13] (fun v x i wr => ∃ k : Nat, i = .int .i64 k ∧ k ≤ ks.length ∧ Hid (wr.ownsRow w2.heap.size TMb 4 v (ks.take k).length (recL (ks.take k))) ∧ Mod (fun _ => False) w2 wr) (fun _ _ i _ => ks.length - (intOf i).toNat)
    case atStart => exact ⟨0, rfl, Nat.zero_le _, World.ownsRow_nil _ _ _ _, Mod.refl _ _⟩
    case round =>
      obtain ⟨k, rfl, hk, hown, hm⟩ := hrel
      by_cases hlt : (k : Int) < ks.length
      · obtain ⟨⟨x, r⟩, hkr⟩ : ∃ q, ks[k]? = some q := ⟨_, List.getElem?_eq_getElem (by omega)⟩
        have ck := hm.cell (HC.out k _ hkr) (fun h => h)
        have hmem : (x, r) ∈ ks := List.mem_of_getElem? hkr
        have hlk := lk_of_mem HRI.out hmem
        have hl : (Instr.lookup 64 (.map (some M)) (.int .i64 x) false).run Try.prog wr = .ok (.agg #[.int .i64 x, .int .i64 r.s, .int .i64 r.u, .int .i64 r.b]) wr := by
          have := (HV2.out.new hm).map.look Try.underlying3 Try.underlying64 (zeroKnown _) (HI.out _ hmem)
          rw [lk_mp, hlk] at this
          exact this
        have k3 : wr.cell? ⟨b, 5, none⟩ = some (.map (some M)) := (HV2.out.new hm).head.cell 5
        have HTK := Lib.hid (show ks.take (k + 1) = ks.take k ++ [(x, r)] by rw [List.take_add_one, hkr]; rfl)
        have htl : (ks.take k).length ≤ 1000 := Nat.le_trans (List.length_take_le _ _) (by omega)
        have HM := Lib.hid hm
        clear hkr hmem hlk
        go_wp2_with (at_builtin; refine app1 (base := w2.heap.size) rfl (.tmp 17) (.tmp 24) 22 TMb 4 rfl Try.underlying22 infoKn rfl (by decide) _ _ _ _ 1 [.int .i64 x, .int .i64 r.s, .int .i64 r.u, .int .i64 r.b] (by have := HM.out.size; simp; omega) (hown.out.alloc _) rfl rfl (sl_new wr _ _) (by simp [Value.oneCell']) (by decide) (by omega) ?_; intro v' w' g1 g2 g3; have G1 := Lib.hid g1; have G2 := Lib.hid (((Mod.refl _ wr).alloc (.cells #[.int .i64 x, .int .i64 r.s, .int .i64 r.u, .int .i64 r.b] TMb)).trans g2); clear g1 g2 g3)
        refine ⟨⟨k + 1, by go_num, by omega, ?_, hm.new G2.out (own_ge hown.out)⟩, by simp [intOf]; omega⟩
        show World.ownsRow _ _ _ _ _ _ _
        rw [HTK.out, recL_snoc, List.length_append]
        exact G1.out
      · have hkn : k = ks.length := by omega
        have h1 := hown.out
        rw [hkn, List.take_length] at h1
        have O1 := Lib.hid (h1.mono M2.out.size)
        have HM := Lib.hid (M2.out.trans hm)
        clear h1 hown hkn hm
        go_wp2_with fail
        go_ret
        exact ⟨⟨_, rfl, O1.out⟩, HM.out⟩
end Go.Proofs.Ytagiodagbfahpaa
