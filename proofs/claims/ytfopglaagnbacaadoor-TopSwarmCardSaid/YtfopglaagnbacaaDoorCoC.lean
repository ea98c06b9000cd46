/- Package conn: New, Bits, Have, Gone, right, Peers, Asked, Late, Over; of TrailingZeros64's table: as it is laid. -/
import Derived.Test.YtfopglaagnbacaaDoorCoA
namespace Go.Proofs.YtfopglaagnbacaaDoor
open Go Go.RowKit

theorem SW.at {w : World} {s b M g t tM n : Nat} {pm mo ea pa : Int} {ks : List (Int × Ow)} {T : LT} (h : SW w s b M g t tM n pm mo ea pa ks T) : w.cell? ⟨s, 0, none⟩ = some (.int .i64 n) ∧ w.cell? ⟨s, 1, none⟩ = some (.pointer (some ⟨b, 0, none⟩)) ∧ w.cell? ⟨s, 2, none⟩ = some (.pointer (some ⟨t, 0, none⟩)) := ⟨h.blk.cell 0, h.blk.cell 1, h.blk.cell 2⟩

set_option maxRecDepth 100000 in
set_option maxHeartbeats 1000000 in
theorem connNew (n : Nat) (pm mo ea pa : Int) (w : World) (hb : BoardOk n pm) (hf : Fl.NewOk mo ea pa) (hT : TabW w) :
    Calls Tryd.prog 4 #[.int .i64 n, .int .i64 pm, .int .i64 mo, .int .i64 ea, .int .i64 pa] w fun e w' => ∃ s b M g t tM : Nat, e = .returned (.tuple #[.pointer (some ⟨s, 0, none⟩), .int .i64 0]) ∧ SW w' s b M g t tM n pm mo ea pa [] [] ∧ Mod (fun _ => False) w w' ∧ ∀ i, SWb s b M g t tM [] i → w.heap.size ≤ i := by
  have HB := Lib.hid hb
  have HF := Lib.hid hf
  have HT := Lib.hid hT
  clear hb hf hT
  go_enter Tryd.func4, Tryd.ntmps4
  go_wp2_with fail
  refine (rareNew n pm _ HB.out HT.out).mono ?_; rintro e w1 ⟨rfl, h1, m1, z1⟩
  obtain ⟨b, hb⟩ : ∃ b, b = w.heap.size + 2 := ⟨_, rfl⟩
  rw [← hb] at h1 ⊢
  have B1 := Lib.hid h1
  have M1 := Lib.hid m1
  have Z1 := Lib.hid z1
  have HBB := Lib.hid hb
  clear h1 m1 z1 hb
  go_wp2_with fail
  refine (Fl.flNew mo ea pa _ HF.out).mono ?_; rintro e w2 ⟨rfl, h2, m2, z2⟩
  obtain ⟨t, ht⟩ : ∃ b, b = w1.heap.size + 1 := ⟨_, rfl⟩
  rw [← ht] at h2 ⊢
  have B2 := Lib.hid (B1.out.new m2)
  have T2 := Lib.hid h2
  have M2 := Lib.hid (M1.out.trans m2)
  have Z2 := Lib.hid z2
  have HTT := Lib.hid ht
  clear h2 m2 z2 ht B1
  go_wp2_with fail
  go_ret2
  have ma := (Mod.refl (fun _ => False) w2).alloc (.cells #[.int .i64 n, .pointer (some ⟨b, 0, none⟩), .pointer (some ⟨t, 0, none⟩)] 56)
  have z1 := Z1.out
  have z2 := Z2.out
  have hb := HBB.out
  have ht := HTT.out
  have hin : ∀ i, BDb b w.heap.size (w.heap.size + 1) [] i → w.heap.size ≤ i ∧ i < w1.heap.size := fun i hi => by
    rcases hi with e | e | e | ⟨q, hq, _⟩
    · omega
    · omega
    · omega
    · simp at hq
  refine ⟨w2.heap.size, b, w.heap.size, w.heap.size + 1, t, w1.heap.size, rfl, ⟨?_, (B2.out.new ma).ext fun _ _ => rfl, T2.out.new ma, fun e => by have := hin _ e; omega, by omega, fun e => by have := hin _ e; omega, fun e => by have := hin _ e; omega⟩, M2.out.trans ma, fun i hi => ?_⟩
  · have := Blk.new w2 #[.int .i64 n, .pointer (some ⟨b, 0, none⟩), .pointer (some ⟨t, 0, none⟩)] 56
    simpa using this
  · rcases hi with e | e | e | e
    · omega
    · exact (hin i e).1
    · omega
    · omega
set_option maxRecDepth 100000 in
set_option maxHeartbeats 1000000 in
theorem connNewBad (n pm mo ea pa : Int) (w : World) (h : ¬ BoardOk n pm ∨ ¬ Fl.NewOk mo ea pa) (hT : TabW w) :
    Calls Tryd.prog 4 #[.int .i64 n, .int .i64 pm, .int .i64 mo, .int .i64 ea, .int .i64 pa] w fun e w' => e = .returned (.tuple #[.pointer none, .int .i64 1]) ∧ Mod (fun _ => False) w w' := by
  by_cases hb : BoardOk n pm
  · have hf := h.resolve_left (fun e => e hb)
    obtain ⟨n, rfl⟩ : ∃ k : Nat, n = (k : Int) := ⟨n.toNat, by unfold BoardOk at hb; omega⟩
    have HB := Lib.hid hb
    have HF := Lib.hid hf
    have HT := Lib.hid hT
    clear hb hf hT h
    go_enter Tryd.func4, Tryd.ntmps4
    go_wp2_with fail
    refine (rareNew n pm _ HB.out HT.out).mono ?_; rintro e w1 ⟨rfl, h1, m1, z1⟩
    have M1 := Lib.hid m1
    clear h1 m1 z1
    go_wp2_with fail
    refine (Fl.flNewBad mo ea pa _ HF.out).mono ?_; rintro e w2 ⟨rfl, rfl⟩
    go_wp2_with fail
    go_ret2
    exact ⟨rfl, M1.out⟩
  · have HB := Lib.hid hb
    clear hb h hT
    go_enter Tryd.func4, Tryd.ntmps4
    go_wp2_with fail
    refine (rareNewBad n pm _ HB.out).mono ?_; rintro e w1 ⟨rfl, rfl⟩
    go_wp2_with fail
    go_ret2
    exact ⟨rfl, Mod.refl _ _⟩

set_option maxHeartbeats 400000 in
theorem connBits (peer : Int) (so : Option Nat) (x : Option (Nat × (Nat → Bool))) (s b M g t tM n : Nat) (pm mo ea pa : Int) (ks : List (Int × Ow)) (L : LB) (T : LT) (w : World) (h : SW w s b M g t tM n pm mo ea pa ks T) (he : mapV Ow.f ks = L) (hT : TabW w) (hl : ks.length ≤ 64) (hn : n ≤ 1024) (hI : I64 peer) {lo : Nat} (hs : SoB lo w so x) (hlo : ∀ i, BDb b M g ks i → i < lo) :
    Calls Tryd.prog 7 #[.pointer (some ⟨s, 0, none⟩), .int .i64 peer, .pointer (so.map fun s => ⟨s, 0, none⟩)] w fun e w' => e = .returned (.int .i64 (setA n pm L peer x).1) ∧ StS s b M g t tM n pm mo ea pa ks (setA n pm L peer x).2 T w w' := by
  obtain ⟨c0, c1, c2⟩ := h.at
  have HC := Lib.hid (codeSet peer so x b M g n pm ks L w h.bd he hT hl hn hI hs hlo)
  have H := Lib.hid h
  clear h he hT hI hs hlo c0 c2
  go_enter Tryd.func7, Tryd.ntmps7
  go_wp2_with fail
  refine HC.out.mono ?_; rintro e w1 ⟨rfl, h1⟩
  have H1 := Lib.hid (StS.board H.out h1)
  clear h1
  go_wp2_with fail
  go_ret
  exact ⟨rfl, H1.out⟩
/-- What Gone leaves on the way. -/
def goneT (L : LB) (peer : Int) (T : LT) : LT := if (lkL L peer).isSome = true then T.filter (fun x => !(x.2.p == peer)) else T

/-- Whether there may be requests. -/
def rightA (n : Nat) (now : Int) (x : Option (Nat × (Nat → Bool))) : Bool := decide (0 ≤ now ∧ now ≤ 1099511627776) && (match x with | none => false | some (m, _) => decide (m = n))
set_option maxRecDepth 100000 in
set_option maxHeartbeats 1000000 in
theorem connRight (now : Int) (so : Option Nat) (x : Option (Nat × (Nat → Bool))) (s n : Nat) (w : World) (c0 : w.cell? ⟨s, 0, none⟩ = some (.int .i64 n)) {lo : Nat} (hs : SoB lo w so x) :
    Calls Tryd.prog 18 #[.pointer (some ⟨s, 0, none⟩), .int .i64 now, .pointer (so.map fun s => ⟨s, 0, none⟩)] w fun e w' => e = .returned (.bool (rightA n now x)) ∧ Mod (fun _ => False) w w' := by
  rcases hs with ⟨rfl, rfl⟩ | ⟨y, yg, m, f, rfl, rfl, hb, _, _⟩
  · have e0 : rightA n now none = false := by unfold rightA; simp
    rw [e0]
    clear e0
    by_cases h1 : 0 ≤ now
    · by_cases h2 : now ≤ 1099511627776
      · go_enter Tryd.func18, Tryd.ntmps18
        go_wp2_with fail
        go_quiet (fail)
        go_wp2_with fail
        go_ret
        exact ⟨rfl, (Mod.refl _ w).drewN _⟩
      · have h2' : decide (now ≤ 1099511627776) = false := by simpa using h2
        go_enter Tryd.func18, Tryd.ntmps18
        go_wp2_with fail
        go_quiet (fail)
        go_wp2_with fail
        go_ret
        exact ⟨rfl, (Mod.refl _ w).drewN _⟩
    · have h1' : decide (0 ≤ now) = false := by simpa using h1
      go_enter Tryd.func18, Tryd.ntmps18
      go_wp2_with fail
      go_quiet (fail)
      go_wp2_with fail
      go_ret
      exact ⟨rfl, (Mod.refl _ w).drewN _⟩
  · have e0 : rightA n now (some (m, f)) = (decide (0 ≤ now ∧ now ≤ 1099511627776) && decide (m = n)) := rfl
    rw [e0]
    clear e0
    have HB := Lib.hid hb
    clear hb
    by_cases h1 : 0 ≤ now
    · by_cases h2 : now ≤ 1099511627776
      · rw [decide_eq_true (show 0 ≤ now ∧ now ≤ 1099511627776 from ⟨h1, h2⟩), Bool.true_and]
        go_enter Tryd.func18, Tryd.ntmps18
        go_wp2_with fail
        refine wp_region2 [] [28] (by kernel_rfl) (by kernel_rfl) ?_
        repeat (first | (refine reg_anyT (by rfl) (fun K hK => ?_); go_simp; refine hK _ _ ?_; clear hK K) | (refine reg_read (by rfl) (fun K hK => ?_); go_simp; refine hK _ _ ?_; clear hK K))
        refine reg_read (by rfl) (fun K hK => ?_); go_simp
        refine ⟨_, fun rn => rd_same (bitsLen y yg m f _ (HB.out.drewN _)), hK _ _ ?_⟩; clear hK K
        repeat (first | (refine reg_anyT (by rfl) (fun K hK => ?_); go_simp; refine hK _ _ ?_; clear hK K) | (refine reg_read (by rfl) (fun K hK => ?_); go_simp; refine hK _ _ ?_; clear hK K))
        refine reg_nil (fun nd => ?_)
        go_wp2_with fail
        go_ret
        refine ⟨?_, (Mod.refl _ w).drewN _⟩
        by_cases e : m = n
        · subst e; simp
        · have : (m : Int) ≠ n := by omega
          simp [e, this]
      · rw [decide_eq_false (show ¬ (0 ≤ now ∧ now ≤ 1099511627776) by omega), Bool.false_and]
        have h2' : decide (now ≤ 1099511627776) = false := by simpa using h2
        go_enter Tryd.func18, Tryd.ntmps18
        go_wp2_with fail
        go_quiet (fail)
        go_wp2_with fail
        go_ret
        exact ⟨rfl, (Mod.refl _ w).drewN _⟩
    · rw [decide_eq_false (show ¬ (0 ≤ now ∧ now ≤ 1099511627776) by omega), Bool.false_and]
      have h1' : decide (0 ≤ now) = false := by simpa using h1
      go_enter Tryd.func18, Tryd.ntmps18
      go_wp2_with fail
      go_quiet (fail)
      go_wp2_with fail
      go_ret
      exact ⟨rfl, (Mod.refl _ w).drewN _⟩
/-- What Late answers, and what it leaves. -/
def lateL (pa q : Int) (T : LT) : LT := if 0 ≤ q ∧ q ≤ 1099511627776 then T.filter (fun x => decide (pa ≤ q - x.2.t)) else []
def lateE (q : Int) : Int := if 0 ≤ q ∧ q ≤ 1099511627776 then 0 else 1
def lateT (pa q : Int) (T : LT) : LT := if 0 ≤ q ∧ q ≤ 1099511627776 then T.filter (fun x => !decide (pa ≤ q - x.2.t)) else T
/-- A list of requests and an error, in new memory. -/
def RqE (l : LT) (e : Int) (w : World) (x : Ending) (w' : World) : Prop := ∃ v, x = .returned (.tuple #[v, .int .i64 e]) ∧ w'.ownsRow w.heap.size 45 3 v l.length (Fl.rqL l)
/-- Whether a peer was asked for a piece. -/
def overA (T : LT) (peer piece : Int) : Bool := match lkL T piece with | none => false | some r => decide (r.p = peer)
def overT (T : LT) (peer piece : Int) : LT := if overA T peer piece = true then delL T piece else T
set_option maxRecDepth 100000 in
set_option maxHeartbeats 1000000 in
theorem connOver (peer piece : Int) (s b M g t tM n : Nat) (pm mo ea pa : Int) (ks : List (Int × Ow)) (T : LT) (w : World) (h : SW w s b M g t tM n pm mo ea pa ks T) (hI : I64 piece) :
    Calls Tryd.prog 11 #[.pointer (some ⟨s, 0, none⟩), .int .i64 peer, .int .i64 piece] w fun e w' => e = .returned (.bool (overA T peer piece)) ∧ Fl.TB w' t tM mo ea pa (overT T peer piece) ∧ Mod (· = tM) w w' := by
  obtain ⟨c0, c1, c2⟩ := h.at
  have HO := Lib.hid (Fl.flOf piece t tM mo ea pa T w hI h.tb)
  have H := Lib.hid h
  have HI := Lib.hid hI
  cases hl : lkL T piece with
  | none =>
    have e1 : overA T peer piece = false := by unfold overA; rw [hl]
    have e2 : overT T peer piece = T := by unfold overT; rw [e1]; rfl
    rw [e1, e2]
    have hr : Fl.rqAt T piece = Fl.rq0 := by unfold Fl.rqAt; rw [hl]; rfl
    rw [hr, hl] at HO
    clear h c0 c1 hI e1 e2 hr hl
    go_enter Tryd.func11, Tryd.ntmps11
    go_wp2_with fail
    refine HO.out.mono ?_; rintro e w1 ⟨rfl, m1⟩
    have H1 := Lib.hid (H.out.tb.new m1)
    have M1 := Lib.hid m1
    clear m1 HO
    go_wp2_with fail
    go_ret
    exact ⟨rfl, H1.out.new ((Mod.refl _ w1).alloc _), (M1.out.alloc _).mono fun _ _ e => e.elim⟩
  | some r =>
    have e1 : overA T peer piece = decide (r.p = peer) := by unfold overA; rw [hl]
    have hr : Fl.rqAt T piece = Fl.rqv piece r := by unfold Fl.rqAt; rw [hl]; rfl
    rw [hr, hl] at HO
    unfold Fl.rqv at HO
    by_cases hp : r.p = peer
    · have e2 : overT T peer piece = delL T piece := by unfold overT; rw [e1, decide_eq_true hp]; rfl
      rw [e1, e2, decide_eq_true hp]
      subst hp
      clear h c0 c1 hI e1 e2 hr hl
      go_enter Tryd.func11, Tryd.ntmps11
      go_wp2_with fail
      refine HO.out.mono ?_; rintro e w1 ⟨rfl, m1⟩
      have c2' := m1.cell c2 (fun h => h)
      have hlt := Nat.lt_of_lt_of_le H.out.blk.lt m1.size
      have ma := (Mod.refl (fun _ => False) w1).alloc (.cells #[.int .i64 r.p, .int .i64 piece, .int .i64 r.t] 45)
      have HD := Lib.hid (Fl.flDone piece t tM mo ea pa T _ HI.out ((H.out.tb.new m1).new ma))
      have M1 := Lib.hid (m1.trans ma)
      clear m1 ma HO c2
      go_wp2_with fail
      refine HD.out.mono ?_; rintro e w2 ⟨rfl, h2, m2⟩
      obtain ⟨xa, xb, xc, hx⟩ := Fl.rqAt_agg T piece
      rw [hx]
      have H2 := Lib.hid h2
      have M2 := Lib.hid ((M1.out.mono (S' := (· = tM)) fun _ _ e => e.elim).trans m2)
      clear h2 m2 M1 HD
      go_wp2_with fail
      go_ret
      exact ⟨rfl, H2.out, M2.out⟩
    · have e2 : overT T peer piece = T := by unfold overT; rw [e1, decide_eq_false hp]; rfl
      rw [e1, e2, decide_eq_false hp]
      have hne : (r.p == peer) = false := by simpa using hp
      clear h c0 c1 hI e1 e2 hr hl hp
      go_enter Tryd.func11, Tryd.ntmps11
      go_wp2_with fail
      refine HO.out.mono ?_; rintro e w1 ⟨rfl, m1⟩
      have H1 := Lib.hid (H.out.tb.new m1)
      have M1 := Lib.hid m1
      clear m1 HO
      go_wp2_with fail
      go_ret
      exact ⟨rfl, H1.out.new ((Mod.refl _ w1).alloc _), (M1.out.alloc _).mono fun _ _ e => e.elim⟩
end Go.Proofs.YtfopglaagnbacaaDoor
