/- Texts of this claim, laid together by a program of its own: CoC, CoD, CoP, CoE, CoF, CoG, CoH, CoI. Each says in its first row what it proves. -/
import Derived.WalkMore
import Derived.Test.YtjmfhcliggjdgaaGreatDoorQ5
/- Package conn: New, Bits, Have, Gone, right, Peers, Asked, Late, Over; of TrailingZeros64's table: as it is laid. -/
namespace Go.Proofs.YtjmfhcliggjdgaaGreatDoor
open Go Go.RowKit

theorem SW.at {w : World} {s b M g t tM n : Nat} {pm mo ea pa : Int} {ks : List (Int × Ow)} {T : LT} (h : SW w s b M g t tM n pm mo ea pa ks T) : w.cell? ⟨s, 0, none⟩ = some (.int .i64 n) ∧ w.cell? ⟨s, 1, none⟩ = some (.pointer (some ⟨b, 0, none⟩)) ∧ w.cell? ⟨s, 2, none⟩ = some (.pointer (some ⟨t, 0, none⟩)) := ⟨h.blk.cell 0, h.blk.cell 1, h.blk.cell 2⟩

set_option maxRecDepth 100000 in
set_option maxHeartbeats 1000000 in
theorem connNew (n : Nat) (pm mo ea pa : Int) (w : World) (hb : BoardOk n pm) (hf : Fl.NewOk mo ea pa) (hT : TabW w) :
    Calls Tryz.prog 8 #[.int .i64 n, .int .i64 pm, .int .i64 mo, .int .i64 ea, .int .i64 pa] w fun e w' => ∃ s b M g t tM : Nat, e = .returned (.tuple #[.pointer (some ⟨s, 0, none⟩), .int .i64 0]) ∧ SW w' s b M g t tM n pm mo ea pa [] [] ∧ Mod (fun _ => False) w w' ∧ ∀ i, SWb s b M g t tM [] i → w.heap.size ≤ i := by
  have HB := Lib.hid hb
  have HF := Lib.hid hf
  have HT := Lib.hid hT
  clear hb hf hT
  go_enter Tryz.func8, Tryz.ntmps8
  go_wp2_with fail
  refine (rareNew n pm _ HB.out HT.out).mono ?_; rintro e w1 ⟨rfl, h1, m1, z1⟩
  obtain ⟨b, hb⟩ : ∃ b, b = w.heap.size + 2 := ⟨_, rfl⟩
  rw [← hb] at h1 ⊢
  have B1 := Lib.hid h1
  have M1 := Lib.hid m1
  have Z1 := Lib.hid z1
  have HBB := Lib.hid hb
  clear h1 m1 z1 hb
  go_wp2_with fail
  refine (Fl.flNew mo ea pa _ HF.out).mono ?_; rintro e w2 ⟨rfl, h2, m2, z2⟩
  obtain ⟨t, ht⟩ : ∃ b, b = w1.heap.size + 1 := ⟨_, rfl⟩
  rw [← ht] at h2 ⊢
  have B2 := Lib.hid (B1.out.new m2)
  have T2 := Lib.hid h2
  have M2 := Lib.hid (M1.out.trans m2)
  have Z2 := Lib.hid z2
  have HTT := Lib.hid ht
  clear h2 m2 z2 ht B1
  go_wp2_with fail
  go_ret2
  have ma := (Mod.refl (fun _ => False) w2).alloc (.cells #[.int .i64 n, .pointer (some ⟨b, 0, none⟩), .pointer (some ⟨t, 0, none⟩)] 74)
  have z1 := Z1.out
  have z2 := Z2.out
  have hb := HBB.out
  have ht := HTT.out
  have hin : ∀ i, BDb b w.heap.size (w.heap.size + 1) [] i → w.heap.size ≤ i ∧ i < w1.heap.size := fun i hi => by
    rcases hi with e | e | e | ⟨q, hq, _⟩
    · omega
    · omega
    · omega
    · simp at hq
  refine ⟨w2.heap.size, b, w.heap.size, w.heap.size + 1, t, w1.heap.size, rfl, ⟨?_, (B2.out.new ma).ext fun _ _ => rfl, T2.out.new ma, fun e => by have := hin _ e; omega, by omega, fun e => by have := hin _ e; omega, fun e => by have := hin _ e; omega⟩, M2.out.trans ma, fun i hi => ?_⟩
  · have := Blk.new w2 #[.int .i64 n, .pointer (some ⟨b, 0, none⟩), .pointer (some ⟨t, 0, none⟩)] 74
    simpa using this
  · rcases hi with e | e | e | e
    · omega
    · exact (hin i e).1
    · omega
    · omega
set_option maxRecDepth 100000 in
set_option maxHeartbeats 1000000 in
theorem connNewBad (n pm mo ea pa : Int) (w : World) (h : ¬ BoardOk n pm ∨ ¬ Fl.NewOk mo ea pa) (hT : TabW w) :
    Calls Tryz.prog 8 #[.int .i64 n, .int .i64 pm, .int .i64 mo, .int .i64 ea, .int .i64 pa] w fun e w' => e = .returned (.tuple #[.pointer none, .int .i64 1]) ∧ Mod (fun _ => False) w w' := by
  by_cases hb : BoardOk n pm
  · have hf := h.resolve_left (fun e => e hb)
    obtain ⟨n, rfl⟩ : ∃ k : Nat, n = (k : Int) := ⟨n.toNat, by unfold BoardOk at hb; omega⟩
    have HB := Lib.hid hb
    have HF := Lib.hid hf
    have HT := Lib.hid hT
    clear hb hf hT h
    go_enter Tryz.func8, Tryz.ntmps8
    go_wp2_with fail
    refine (rareNew n pm _ HB.out HT.out).mono ?_; rintro e w1 ⟨rfl, h1, m1, z1⟩
    have M1 := Lib.hid m1
    clear h1 m1 z1
    go_wp2_with fail
    refine (Fl.flNewBad mo ea pa _ HF.out).mono ?_; rintro e w2 ⟨rfl, rfl⟩
    go_wp2_with fail
    go_ret2
    exact ⟨rfl, M1.out⟩
  · have HB := Lib.hid hb
    clear hb h hT
    go_enter Tryz.func8, Tryz.ntmps8
    go_wp2_with fail
    refine (rareNewBad n pm _ HB.out).mono ?_; rintro e w1 ⟨rfl, rfl⟩
    go_wp2_with fail
    go_ret2
    exact ⟨rfl, Mod.refl _ _⟩

set_option maxHeartbeats 400000 in
theorem connBits (peer : Int) (so : Option Nat) (x : Option (Nat × (Nat → Bool))) (s b M g t tM n : Nat) (pm mo ea pa : Int) (ks : List (Int × Ow)) (L : LB) (T : LT) (w : World) (h : SW w s b M g t tM n pm mo ea pa ks T) (he : mapV Ow.f ks = L) (hT : TabW w) (hl : ks.length ≤ 64) (hn : n ≤ 1024) (hI : I64 peer) {lo : Nat} (hs : SoB lo w so x) (hlo : ∀ i, BDb b M g ks i → i < lo) :
    Calls Tryz.prog 25 #[.pointer (some ⟨s, 0, none⟩), .int .i64 peer, .pointer (so.map fun s => ⟨s, 0, none⟩)] w fun e w' => e = .returned (.int .i64 (setA n pm L peer x).1) ∧ StS s b M g t tM n pm mo ea pa ks (setA n pm L peer x).2 T w w' := by
  obtain ⟨c0, c1, c2⟩ := h.at
  have HC := Lib.hid (codeSet peer so x b M g n pm ks L w h.bd he hT hl hn hI hs hlo)
  have H := Lib.hid h
  clear h he hT hI hs hlo c0 c2
  go_enter Tryz.func25, Tryz.ntmps25
  go_wp2_with fail
  refine HC.out.mono ?_; rintro e w1 ⟨rfl, h1⟩
  have H1 := Lib.hid (StS.board H.out h1)
  clear h1
  go_wp2_with fail
  go_ret
  exact ⟨rfl, H1.out⟩
set_option maxHeartbeats 400000 in
theorem connHave (peer k : Int) (s b M g t tM n : Nat) (pm mo ea pa : Int) (ks : List (Int × Ow)) (L : LB) (T : LT) (w : World) (h : SW w s b M g t tM n pm mo ea pa ks T) (he : mapV Ow.f ks = L) (hl : ks.length ≤ 64) (hI : I64 peer) :
    Calls Tryz.prog 31 #[.pointer (some ⟨s, 0, none⟩), .int .i64 peer, .int .i64 k] w fun e w' => e = .returned (.int .i64 (addA n L peer k).1) ∧ StS s b M g t tM n pm mo ea pa ks (addA n L peer k).2 T w w' := by
  obtain ⟨c0, c1, c2⟩ := h.at
  have HC := Lib.hid (codeAdd peer k b M g n pm ks L w h.bd he hl hI)
  have H := Lib.hid h
  clear h he hI c0 c2
  go_enter Tryz.func31, Tryz.ntmps31
  go_wp2_with fail
  refine HC.out.mono ?_; rintro e w1 ⟨rfl, h1⟩
  have H1 := Lib.hid (StS.board H.out h1)
  clear h1
  go_wp2_with fail
  go_ret
  exact ⟨rfl, H1.out⟩
/-- What Gone leaves on the way. -/
def goneT (L : LB) (peer : Int) (T : LT) : LT := if (lkL L peer).isSome = true then T.filter (fun x => !(x.2.p == peer)) else T
set_option maxRecDepth 100000 in
set_option maxHeartbeats 1000000 in
theorem connGone (peer : Int) (s b M g t tM n : Nat) (pm mo ea pa : Int) (ks : List (Int × Ow)) (L : LB) (T : LT) (w : World) (h : SW w s b M g t tM n pm mo ea pa ks T) (he : mapV Ow.f ks = L) (hT : TabW w) (hl : ks.length ≤ 64) (hn : n ≤ 1024) (hI : I64 peer) (hlt : T.length ≤ 256) (hti : ∀ q ∈ T, I64 q.1) :
    Calls Tryz.prog 33 #[.pointer (some ⟨s, 0, none⟩), .int .i64 peer] w fun e w' => e = .returned (.int .i64 (goneA L peer).1) ∧ StS s b M g t tM n pm mo ea pa ks (goneA L peer).2 (goneT L peer T) w w' := by
  obtain ⟨c0, c1, c2⟩ := h.at
  have HC := Lib.hid (codeGone peer b M g n pm ks L w h.bd he hT hl hn hI)
  have H := Lib.hid h
  have HTI := Lib.hid hti
  clear h he hT hI c0 c2 hti
  obtain ⟨A, hA⟩ : ∃ A, A = goneA L peer := ⟨_, rfl⟩
  rw [← hA] at HC ⊢
  have HA := Lib.hid hA
  clear hA
  obtain ⟨e0, L1⟩ := A
  go_enter Tryz.func33, Tryz.ntmps33
  go_wp2_with fail
  refine HC.out.mono ?_; rintro e w1 ⟨rfl, h1⟩
  have S1 := StS.board H.out h1
  clear h1 c1
  obtain ⟨k1, h1, f1, m1, n1⟩ := S1
  have c2 := h1.at.2.2
  have H1 := Lib.hid h1
  have F1 := Lib.hid f1
  have M1 := Lib.hid m1
  have N1 := Lib.hid n1
  clear h1 f1 m1 n1
  by_cases hp : (lkL L peer).isSome = true
  · have hA := HA.out
    unfold goneA at hA
    rw [if_pos hp] at hA
    cases hA
    have hgT : goneT L peer T = T.filter (fun x => !(x.2.p == peer)) := by unfold goneT; rw [if_pos hp]
    have HGT := Lib.hid hgT
    clear hgT
    have HD := Lib.hid (Fl.flDrop peer t tM mo ea pa T w1 H1.out.tb (by omega) HTI.out)
    clear hp HC
    go_wp2_with fail
    refine HD.out.mono ?_; rintro e w2 ⟨⟨v, rfl, _⟩, h2, m2⟩
    have S2 := Lib.hid (StS.trans M1.out N1.out (StS.tmod H1.out F1.out h2 m2))
    clear h2 m2
    go_wp2_with fail
    go_ret
    exact ⟨rfl, by rw [HGT.out]; exact S2.out⟩
  · have hA := HA.out
    unfold goneA at hA
    rw [if_neg hp] at hA
    cases hA
    have hgT : goneT L peer T = T := by unfold goneT; rw [if_neg hp]
    have HGT := Lib.hid hgT
    clear hgT hp HC
    go_wp2_with fail
    go_ret
    exact ⟨rfl, _, by rw [HGT.out]; exact H1.out, F1.out, M1.out, N1.out⟩

/-- Whether there may be requests. -/
def rightA (n : Nat) (now : Int) (x : Option (Nat × (Nat → Bool))) : Bool := decide (0 ≤ now ∧ now ≤ 1099511627776) && (match x with | none => false | some (m, _) => decide (m = n))
set_option maxRecDepth 100000 in
set_option maxHeartbeats 1000000 in
theorem connRight (now : Int) (so : Option Nat) (x : Option (Nat × (Nat → Bool))) (s n : Nat) (w : World) (c0 : w.cell? ⟨s, 0, none⟩ = some (.int .i64 n)) {lo : Nat} (hs : SoB lo w so x) :
    Calls Tryz.prog 44 #[.pointer (some ⟨s, 0, none⟩), .int .i64 now, .pointer (so.map fun s => ⟨s, 0, none⟩)] w fun e w' => e = .returned (.bool (rightA n now x)) ∧ Mod (fun _ => False) w w' := by
  rcases hs with ⟨rfl, rfl⟩ | ⟨y, yg, m, f, rfl, rfl, hb, _, _⟩
  · have e0 : rightA n now none = false := by unfold rightA; simp
    rw [e0]
    clear e0
    by_cases h1 : 0 ≤ now
    · by_cases h2 : now ≤ 1099511627776
      · go_enter Tryz.func44, Tryz.ntmps44
        go_wp2_with fail
        go_quiet (fail)
        go_wp2_with fail
        go_ret
        exact ⟨rfl, (Mod.refl _ w).drewN _⟩
      · have h2' : decide (now ≤ 1099511627776) = false := by simpa using h2
        go_enter Tryz.func44, Tryz.ntmps44
        go_wp2_with fail
        go_quiet (fail)
        go_wp2_with fail
        go_ret
        exact ⟨rfl, (Mod.refl _ w).drewN _⟩
    · have h1' : decide (0 ≤ now) = false := by simpa using h1
      go_enter Tryz.func44, Tryz.ntmps44
      go_wp2_with fail
      go_quiet (fail)
      go_wp2_with fail
      go_ret
      exact ⟨rfl, (Mod.refl _ w).drewN _⟩
  · have e0 : rightA n now (some (m, f)) = (decide (0 ≤ now ∧ now ≤ 1099511627776) && decide (m = n)) := rfl
    rw [e0]
    clear e0
    have HB := Lib.hid hb
    clear hb
    by_cases h1 : 0 ≤ now
    · by_cases h2 : now ≤ 1099511627776
      · rw [decide_eq_true (show 0 ≤ now ∧ now ≤ 1099511627776 from ⟨h1, h2⟩), Bool.true_and]
        go_enter Tryz.func44, Tryz.ntmps44
        go_wp2_with fail
        refine wp_region2 [] [77] (by kernel_rfl) (by kernel_rfl) ?_
        repeat (first | (refine reg_anyT (by rfl) (fun K hK => ?_); go_simp; refine hK _ _ ?_; clear hK K) | (refine reg_read (by rfl) (fun K hK => ?_); go_simp; refine hK _ _ ?_; clear hK K))
        refine reg_read (by rfl) (fun K hK => ?_); go_simp
        refine ⟨_, fun rn => rd_same (bitsLen y yg m f _ (HB.out.drewN _)), hK _ _ ?_⟩; clear hK K
        repeat (first | (refine reg_anyT (by rfl) (fun K hK => ?_); go_simp; refine hK _ _ ?_; clear hK K) | (refine reg_read (by rfl) (fun K hK => ?_); go_simp; refine hK _ _ ?_; clear hK K))
        refine reg_nil (fun nd => ?_)
        go_wp2_with fail
        go_ret
        refine ⟨?_, (Mod.refl _ w).drewN _⟩
        by_cases e : m = n
        · subst e; simp
        · have : (m : Int) ≠ n := by omega
          simp [e, this]
      · rw [decide_eq_false (show ¬ (0 ≤ now ∧ now ≤ 1099511627776) by omega), Bool.false_and]
        have h2' : decide (now ≤ 1099511627776) = false := by simpa using h2
        go_enter Tryz.func44, Tryz.ntmps44
        go_wp2_with fail
        go_quiet (fail)
        go_wp2_with fail
        go_ret
        exact ⟨rfl, (Mod.refl _ w).drewN _⟩
    · rw [decide_eq_false (show ¬ (0 ≤ now ∧ now ≤ 1099511627776) by omega), Bool.false_and]
      have h1' : decide (0 ≤ now) = false := by simpa using h1
      go_enter Tryz.func44, Tryz.ntmps44
      go_wp2_with fail
      go_quiet (fail)
      go_wp2_with fail
      go_ret
      exact ⟨rfl, (Mod.refl _ w).drewN _⟩
set_option maxHeartbeats 400000 in
theorem connPeers (s b M g t tM n : Nat) (pm mo ea pa : Int) (ks : List (Int × Ow)) (L : LB) (T : LT) (w : World) (h : SW w s b M g t tM n pm mo ea pa ks T) (he : mapV Ow.f ks = L) (hl : ks.length ≤ 64) :
    Calls Tryz.prog 19 #[.pointer (some ⟨s, 0, none⟩)] w (IntsP (keysL L) w) := by
  obtain ⟨c0, c1, c2⟩ := h.at
  have hc := rarePeers b M g n pm (cO ks) ks w h.bd (by omega)
  rw [← keys_mapV Ow.f ks, he] at hc
  have HC := Lib.hid hc
  clear h he c0 c2 hc
  go_enter Tryz.func19, Tryz.ntmps19
  go_wp2_with fail
  refine HC.out.mono ?_; rintro e w1 ⟨v, rfl, h1, h2⟩
  have H1 := Lib.hid h1
  clear h1
  go_wp2_with fail
  go_ret
  exact ⟨v, rfl, H1.out, h2⟩
set_option maxHeartbeats 400000 in
theorem connAsked (s b M g t tM n : Nat) (pm mo ea pa : Int) (ks : List (Int × Ow)) (T : LT) (w : World) (h : SW w s b M g t tM n pm mo ea pa ks T) (hlt : T.length ≤ 256) (hti : ∀ q ∈ T, I64 q.1) :
    Calls Tryz.prog 11 #[.pointer (some ⟨s, 0, none⟩)] w (Fl.RqsP T w) := by
  obtain ⟨c0, c1, c2⟩ := h.at
  have hc := Fl.flAll t tM mo ea pa T w h.tb (by omega) hti
  have HC := Lib.hid hc
  clear h c0 c1 hc
  go_enter Tryz.func11, Tryz.ntmps11
  go_wp2_with fail
  refine HC.out.mono ?_; rintro e w1 ⟨v, rfl, h1, h2⟩
  have H1 := Lib.hid h1
  clear h1
  go_wp2_with fail
  go_ret
  exact ⟨v, rfl, H1.out, h2⟩
/-- What Late answers, and what it leaves. -/
def lateL (pa q : Int) (T : LT) : LT := if 0 ≤ q ∧ q ≤ 1099511627776 then T.filter (fun x => decide (pa ≤ q - x.2.t)) else []
def lateE (q : Int) : Int := if 0 ≤ q ∧ q ≤ 1099511627776 then 0 else 1
def lateT (pa q : Int) (T : LT) : LT := if 0 ≤ q ∧ q ≤ 1099511627776 then T.filter (fun x => !decide (pa ≤ q - x.2.t)) else T
/-- A list of requests and an error, in new memory. -/
def RqE (l : LT) (e : Int) (w : World) (x : Ending) (w' : World) : Prop := ∃ v, x = .returned (.tuple #[v, .int .i64 e]) ∧ w'.ownsRow w.heap.size 42 3 v l.length (Fl.rqL l)
set_option maxRecDepth 100000 in
set_option maxHeartbeats 1000000 in
theorem connLate (q : Int) (s b M g t tM n : Nat) (pm mo ea pa : Int) (ks : List (Int × Ow)) (T : LT) (w : World) (h : SW w s b M g t tM n pm mo ea pa ks T) (hlt : T.length ≤ 256) (hti : ∀ q ∈ T, I64 q.1) (htt : ∀ q ∈ T, 0 ≤ q.2.t ∧ q.2.t ≤ 1099511627776) :
    Calls Tryz.prog 22 #[.pointer (some ⟨s, 0, none⟩), .int .i64 q] w fun e w' => RqE (lateL pa q T) (lateE q) w e w' ∧ Fl.TB w' t tM mo ea pa (lateT pa q T) ∧ Mod (· = tM) w w' := by
  obtain ⟨c0, c1, c2⟩ := h.at
  by_cases hq : 0 ≤ q ∧ q ≤ 1099511627776
  · have e1 : lateL pa q T = T.filter (fun x => decide (pa ≤ q - x.2.t)) := by unfold lateL; rw [if_pos hq]
    have e2 : lateT pa q T = T.filter (fun x => !decide (pa ≤ q - x.2.t)) := by unfold lateT; rw [if_pos hq]
    have e3 : lateE q = 0 := by unfold lateE; rw [if_pos hq]
    rw [e1, e2, e3]
    have HC := Lib.hid (Fl.flLate q t tM mo ea pa T w h.tb (by omega) hti hq htt)
    clear h c0 c1 hti htt e1 e2 e3 hq
    go_enter Tryz.func22, Tryz.ntmps22
    go_wp2_with fail
    refine HC.out.mono ?_; rintro e w1 ⟨⟨v, rfl, h1⟩, h2, m2⟩
    have H1 := Lib.hid h1
    have H2 := Lib.hid h2
    have M2 := Lib.hid m2
    clear h1 h2 m2 HC
    go_wp2_with fail
    go_ret2
    exact ⟨⟨v, rfl, H1.out⟩, H2.out, M2.out⟩
  · have e1 : lateL pa q T = [] := by unfold lateL; rw [if_neg hq]
    have e2 : lateT pa q T = T := by unfold lateT; rw [if_neg hq]
    have e3 : lateE q = 1 := by unfold lateE; rw [if_neg hq]
    rw [e1, e2, e3]
    have HC := Lib.hid (Fl.flLateBad q t w hq)
    have H := Lib.hid h
    clear h c0 c1 hti htt e1 e2 e3 hq
    go_enter Tryz.func22, Tryz.ntmps22
    go_wp2_with fail
    refine HC.out.mono ?_; rintro e w1 ⟨rfl, m2⟩
    have H2 := Lib.hid (H.out.tb.new m2)
    have M2 := Lib.hid m2
    clear m2 HC
    go_wp2_with fail
    go_ret2
    exact ⟨⟨_, rfl, World.ownsRow_nil _ _ _ _⟩, H2.out, M2.out.mono fun _ _ e => e.elim⟩
/-- Whether a peer was asked for a piece. -/
def overA (T : LT) (peer piece : Int) : Bool := match lkL T piece with | none => false | some r => decide (r.p = peer)
def overT (T : LT) (peer piece : Int) : LT := if overA T peer piece = true then delL T piece else T
set_option maxRecDepth 100000 in
set_option maxHeartbeats 1000000 in
theorem connOver (peer piece : Int) (s b M g t tM n : Nat) (pm mo ea pa : Int) (ks : List (Int × Ow)) (T : LT) (w : World) (h : SW w s b M g t tM n pm mo ea pa ks T) (hI : I64 piece) :
    Calls Tryz.prog 37 #[.pointer (some ⟨s, 0, none⟩), .int .i64 peer, .int .i64 piece] w fun e w' => e = .returned (.bool (overA T peer piece)) ∧ Fl.TB w' t tM mo ea pa (overT T peer piece) ∧ Mod (· = tM) w w' := by
  obtain ⟨c0, c1, c2⟩ := h.at
  have HO := Lib.hid (Fl.flOf piece t tM mo ea pa T w hI h.tb)
  have H := Lib.hid h
  have HI := Lib.hid hI
  cases hl : lkL T piece with
  | none =>
    have e1 : overA T peer piece = false := by unfold overA; rw [hl]
    have e2 : overT T peer piece = T := by unfold overT; rw [e1]; rfl
    rw [e1, e2]
    have hr : Fl.rqAt T piece = Fl.rq0 := by unfold Fl.rqAt; rw [hl]; rfl
    rw [hr, hl] at HO
    clear h c0 c1 hI e1 e2 hr hl
    go_enter Tryz.func37, Tryz.ntmps37
    go_wp2_with fail
    refine HO.out.mono ?_; rintro e w1 ⟨rfl, m1⟩
    have H1 := Lib.hid (H.out.tb.new m1)
    have M1 := Lib.hid m1
    clear m1 HO
    go_wp2_with fail
    go_ret
    exact ⟨rfl, H1.out.new ((Mod.refl _ w1).alloc _), (M1.out.alloc _).mono fun _ _ e => e.elim⟩
  | some r =>
    have e1 : overA T peer piece = decide (r.p = peer) := by unfold overA; rw [hl]
    have hr : Fl.rqAt T piece = Fl.rqv piece r := by unfold Fl.rqAt; rw [hl]; rfl
    rw [hr, hl] at HO
    unfold Fl.rqv at HO
    by_cases hp : r.p = peer
    · have e2 : overT T peer piece = delL T piece := by unfold overT; rw [e1, decide_eq_true hp]; rfl
      rw [e1, e2, decide_eq_true hp]
      subst hp
      clear h c0 c1 hI e1 e2 hr hl
      go_enter Tryz.func37, Tryz.ntmps37
      go_wp2_with fail
      refine HO.out.mono ?_; rintro e w1 ⟨rfl, m1⟩
      have c2' := m1.cell c2 (fun h => h)
      have hlt := Nat.lt_of_lt_of_le H.out.blk.lt m1.size
      have ma := (Mod.refl (fun _ => False) w1).alloc (.cells #[.int .i64 r.p, .int .i64 piece, .int .i64 r.t] 42)
      have HD := Lib.hid (Fl.flDone piece t tM mo ea pa T _ HI.out ((H.out.tb.new m1).new ma))
      have M1 := Lib.hid (m1.trans ma)
      clear m1 ma HO c2
      go_wp2_with fail
      refine HD.out.mono ?_; rintro e w2 ⟨rfl, h2, m2⟩
      obtain ⟨xa, xb, xc, hx⟩ := Fl.rqAt_agg T piece
      rw [hx]
      have H2 := Lib.hid h2
      have M2 := Lib.hid ((M1.out.mono (S' := (· = tM)) fun _ _ e => e.elim).trans m2)
      clear h2 m2 M1 HD
      go_wp2_with fail
      go_ret
      exact ⟨rfl, H2.out, M2.out⟩
    · have e2 : overT T peer piece = T := by unfold overT; rw [e1, decide_eq_false hp]; rfl
      rw [e1, e2, decide_eq_false hp]
      have hne : (r.p == peer) = false := by simpa using hp
      clear h c0 c1 hI e1 e2 hr hl hp
      go_enter Tryz.func37, Tryz.ntmps37
      go_wp2_with fail
      refine HO.out.mono ?_; rintro e w1 ⟨rfl, m1⟩
      have H1 := Lib.hid (H.out.tb.new m1)
      have M1 := Lib.hid m1
      clear m1 HO
      go_wp2_with fail
      go_ret
      exact ⟨rfl, H1.out.new ((Mod.refl _ w1).alloc _), (M1.out.alloc _).mono fun _ _ e => e.elim⟩
end Go.Proofs.YtjmfhcliggjdgaaGreatDoor

/- Package conn: out, Fall; of TrailingZeros64's table: as it is laid. -/
namespace Go.Proofs.YtjmfhcliggjdgaaGreatDoor
open Go Go.RowKit

/-- What is handed back: a new set. -/
def OutB (n : Nat) (F : Nat → Bool) (w : World) (e : Ending) (w' : World) : Prop := ∃ z zg : Nat, e = .returned (.pointer (some ⟨z, 0, none⟩)) ∧ BSet w' z zg n F ∧ Mod (fun _ => False) w w' ∧ w.heap.size ≤ z ∧ w.heap.size ≤ zg
set_option maxRecDepth 100000 in
set_option maxHeartbeats 1000000 in
theorem connOut (y yg : Nat) (f : Nat → Bool) (s b M g t tM n : Nat) (pm mo ea pa : Int) (ks : List (Int × Ow)) (T : LT) (w : World) (h : SW w s b M g t tM n pm mo ea pa ks T) (hy : BSet w y yg n f) (hlt : T.length ≤ 256) (hti : ∀ q ∈ T, I64 q.1) (hkn : ∀ q ∈ T, 0 ≤ q.1 ∧ q.1 < (n : Int)) :
    Calls Tryz.prog 45 #[.pointer (some ⟨s, 0, none⟩), .pointer (some ⟨y, 0, none⟩)] w (OutB n (outF n f T) w) := by
  have c2 := h.at.2.2
  have HTB := Lib.hid h.tb
  have HY := Lib.hid hy
  have HTI := Lib.hid hti
  have HKN := Lib.hid hkn
  have HOF : Hid (outF n f ([] : LT) = fOr f f) := by
    show _ = _
    funext i
    rw [outF_nil n f i hy.out]
    simp [fOr]
  clear h hy hti hkn
  go_enter Tryz.func45, Tryz.ntmps45
  go_wp2_with fail
  refine (bitsOr y yg y yg n f f _ HY.out HY.out).mono ?_; rintro e w1 ⟨z, zg, rfl, h1, m1, l1, l2⟩
  rw [← HOF.out] at h1
  have c2' := m1.cell c2 (fun h => h)
  have HT1 := Lib.hid (HTB.out.new m1)
  have H1 := Lib.hid h1
  have M1 := Lib.hid m1
  have L1 : Hid (w.heap.size ≤ z ∧ w.heap.size ≤ zg) := ⟨l1, l2⟩
  clear c2 h1 m1 l1 l2 HTB HY
  go_wp2_with fail
  refine (Fl.flAll t tM mo ea pa T w1 HT1.out (by omega) HTI.out).mono ?_; rintro e w2 ⟨v, rfl, o2, m2⟩
  obtain ⟨a, cap, rfl, _, hel, _⟩ := o2.els
  have HA : Hid (∀ X, a = some X → w1.heap.size ≤ X.block ∧ X.block < w2.heap.size) := fun X e => by subst e; exact o2.blk X _ _ rfl
  have HE := Lib.hid hel
  have H2 := Lib.hid (H1.out.mod m2 (fun h => h) (fun h => h))
  have M2 := Lib.hid (M1.out.trans m2)
  have hlz : z < w1.heap.size ∧ zg < w1.heap.size := H1.out.lt
  have HLZ := Lib.hid hlz
  clear o2 m2 c2' hel hlz H1 M1
  go_wp2_with fail
  go_loopw [21] (fun i wr => ∃ k : Nat, i = .int .i64 k ∧ k ≤ T.length ∧ Hid (BSet wr z zg n (outF n f (T.take k))) ∧ Mod (· = zg) w2 wr) (fun i _ => T.length - (intOf i).toNat)
  case atStart => exact ⟨0, rfl, Nat.zero_le _, H2.out, Mod.refl _ _⟩
  case round =>
    obtain ⟨k, rfl, hk, hB, hm⟩ := hrel
    by_cases hlt' : (k : Int) < T.length
    · obtain ⟨⟨x, r⟩, hkr⟩ : ∃ q, T[k]? = some q := ⟨_, List.getElem?_eq_getElem (by omega)⟩
      obtain ⟨X, rfl, p0, p1, p2⟩ := Fl.rqEl HE.out (Nat.le_refl _) hkr
      have hX := HA.out X rfl
      have hXz : ∀ q, ¬ (X.add q).block = zg := fun q => by rw [Addr.add_block]; have := HLZ.out; omega
      have p0 := hm.cell p0 (hXz _); have p1 := hm.cell p1 (hXz _); have p2 := hm.cell p2 (hXz _)
      have hxr := HKN.out _ (List.mem_of_getElem? hkr)
      obtain ⟨j, rfl⟩ : ∃ j : Nat, x = (j : Int) := ⟨x.toNat, by have := hxr.1; simp only at this; omega⟩
      have hjn : j < n := by have := hxr.2; simp only at this; omega
      have HST : Hid (outF n f (T.take (k + 1)) = fil (outF n f (T.take k)) j (j + 1) true) := by
        show _ = _
        rw [List.take_add_one, hkr]
        exact outF_snoc n f _ j r hjn
      have HMR := Lib.hid hm
      have hk1 : T.length - (k + 1) < T.length - k := by omega
      clear hkr hxr hX hXz hm
      go_wp2_with fail
      refine (bitsPut z zg n _ j true _ (hB.out.mod ((Mod.refl (fun _ => False) wr).alloc _) (fun h => h) (fun h => h)) hjn).mono ?_; rintro e w4 ⟨rfl, h4, m4⟩
      rw [← HST.out] at h4
      have H4 := Lib.hid h4
      have M4 := Lib.hid ((HMR.out.alloc (.cells #[.int .i64 r.p, .int .i64 j, .int .i64 r.t] 42)).trans m4)
      clear h4 m4 p0 p1 p2
      go_wp2_with fail
      go_roundw
      case rel => exact ⟨k + 1, by go_num, by omega, H4.out, M4.out⟩
      case measure => simp [intOf]; omega
    · have hkT : T.take k = T := List.take_of_length_le (by omega)
      rw [hkT] at hB
      have HM := Lib.hid hm
      clear hm hkT
      go_wp2_with fail
      go_ret
      have hl := L1.out
      exact ⟨z, zg, rfl, hB.out, M2.out.new HM.out (fun i e => by rw [e]; exact hl.2), hl.1, hl.2⟩

/-- What Fall asks for, from one place on. -/
def fallR (mo ea now : Int) (F : Nat → Bool) : Nat → Nat → LT → LT → LT × LT
  | 0, _, T, l => (T, l)
  | m + 1, i, T, l => if F i = true then fallR mo ea now F m (i + 1) T l else if Fl.askE mo ea T 0 i now = 0 then fallR mo ea now F m (i + 1) (putL T i ⟨0, now⟩) (l ++ [((i : Int), ⟨0, now⟩)]) else (T, l)
theorem fallR_nx (mo ea now : Int) (F : Nat → Bool) (n : Nat) (T l : LT) : ∀ (m k : Nat), m = n - k → (nx F false n k = -1 ∧ fallR mo ea now F m k T l = (T, l)) ∨ ∃ i : Nat, nx F false n k = i ∧ k ≤ i ∧ i < n ∧ F i = false ∧ fallR mo ea now F m k T l = fallR mo ea now F (n - i) i T l := by
  intro m
  induction m with
  | zero =>
    intro k hk
    refine .inl ⟨?_, rfl⟩
    unfold nx
    rw [← hk]
    rfl
  | succ m ih =>
    intro k hk
    by_cases hF : F k = true
    · have e : fallR mo ea now F (m + 1) k T l = fallR mo ea now F m (k + 1) T l := by
        show (if F k = true then _ else _) = _
        rw [if_pos hF]
      have e2 : nx F false n k = nx F false n (k + 1) := by
        unfold nx
        rw [show n - k = (n - (k + 1)) + 1 by omega]
        show (if F k = false then _ else _) = _
        rw [if_neg (by rw [hF]; decide)]
      rw [e, e2]
      rcases ih (k + 1) (by omega) with h | ⟨i, h1, h2, h3, h4, h5⟩
      · exact .inl h
      · exact .inr ⟨i, h1, by omega, h3, h4, h5⟩
    · have hF' : F k = false := by simpa using hF
      refine .inr ⟨k, nx_yes hF' (Nat.le_refl _) (by omega) (fun j h1 h2 => by omega), Nat.le_refl _, by omega, hF', ?_⟩
      rw [hk]
theorem fallR_step {mo ea now : Int} {F : Nat → Bool} {n i : Nat} {T l : LT} (h1 : i < n) (h2 : F i = false) : fallR mo ea now F (n - i) i T l = if Fl.askE mo ea T 0 i now = 0 then fallR mo ea now F (n - (i + 1)) (i + 1) (putL T i ⟨0, now⟩) (l ++ [((i : Int), ⟨0, now⟩)]) else (T, l) := by
  rw [show n - i = (n - (i + 1)) + 1 by omega]
  show (if F i = true then _ else _) = _
  rw [if_neg (by rw [h2]; decide)]
/-- What Fall does: the table, the requests, the error. -/
def fallA (n : Nat) (mo ea now : Int) (x : Option (Nat × (Nat → Bool))) (T : LT) : LT × LT × Int :=
  if rightA n now x = true then ((fallR mo ea now (outF n (x.getD (0, fun _ => false)).2 T) n 0 T []).1, (fallR mo ea now (outF n (x.getD (0, fun _ => false)).2 T) n 0 T []).2, 0) else (T, [], 1)
theorem fallA_some {n : Nat} {mo ea now : Int} {f : Nat → Bool} {T : LT} (hq : 0 ≤ now ∧ now ≤ 1099511627776) : fallA n mo ea now (some (n, f)) T = ((fallR mo ea now (outF n f T) n 0 T []).1, (fallR mo ea now (outF n f T) n 0 T []).2, 0) := by
  unfold fallA
  rw [if_pos (by unfold rightA; simp [hq])]
  rfl
theorem rightA_some {n : Nat} {now : Int} {x : Option (Nat × (Nat → Bool))} (h : rightA n now x = true) : (0 ≤ now ∧ now ≤ 1099511627776) ∧ ∃ f, x = some (n, f) := by
  unfold rightA at h
  rw [Bool.and_eq_true] at h
  obtain ⟨h1, h2⟩ := h
  refine ⟨of_decide_eq_true h1, ?_⟩
  cases x with
  | none => cases h2
  | some q => obtain ⟨m, f⟩ := q; exact ⟨f, by rw [of_decide_eq_true h2]⟩
/-- The table of the origin's requests stays as it may be. -/
theorem Fl.Okk.put0 {mo ea : Int} {T : LT} (h : Fl.Okk mo ea T) {p k now : Int} (he : Fl.askE mo ea T p k now = 0) : Fl.Okk mo ea (putL T k ⟨p, now⟩) := by
  have := h.ask p k now
  unfold Fl.askK at this
  rwa [if_pos he] at this

set_option maxRecDepth 100000 in
set_option maxHeartbeats 4000000 in
theorem connFall (now : Int) (so : Option Nat) (x : Option (Nat × (Nat → Bool))) (s b M g t tM n : Nat) (pm mo ea pa : Int) (ks : List (Int × Ow)) (T : LT) (w : World) (h : SW w s b M g t tM n pm mo ea pa ks T) (hT : TabW w) {lo : Nat} (hs : SoB lo w so x) (hok : Fl.Okk mo ea T) (hmo : mo ≤ 256) (hkn : ∀ q ∈ T, q.1 < (n : Int)) (hn : n ≤ 1024) (htM : gTab < tM) :
    Calls Tryz.prog 17 #[.pointer (some ⟨s, 0, none⟩), .int .i64 now, .pointer (so.map fun s => ⟨s, 0, none⟩)] w fun e w' => RqE (fallA n mo ea now x T).2.1 (fallA n mo ea now x T).2.2 w e w' ∧ Fl.TB w' t tM mo ea pa (fallA n mo ea now x T).1 ∧ Mod (· = tM) w w' := by
  have HRI := Lib.hid (connRight now so x s n w h.at.1 hs)
  by_cases hr : rightA n now x = true
  · obtain ⟨hq, f, rfl⟩ := rightA_some hr
    rw [hr] at HRI
    rw [fallA_some hq]
    rcases hs with ⟨_, e⟩ | ⟨y, yg, m, f', rfl, e, hy, _, _⟩
    · cases e
    cases e
    have hlen : T.length ≤ 256 := by have := hok.len; omega
    have HY := Lib.hid hy
    have HKN : Hid (∀ q ∈ T, 0 ≤ q.1 ∧ q.1 < (n : Int)) := fun q hq => ⟨(hok.rng q hq).1, hkn q hq⟩
    have c2 := h.at.2.2
    have HT := Lib.hid hT
    have H := Lib.hid h
    have HOK := Lib.hid hok
    have HQ := Lib.hid hq
    have HTM : Hid (s ≠ tM ∧ gTab < tM ∧ tM < w.heap.size) := ⟨h.s2.2, htM, h.tb.lt.2⟩
    obtain ⟨F, hF⟩ : ∃ F, F = outF n f T := ⟨_, rfl⟩
    rw [← hF]
    have HF := Lib.hid hF
    obtain ⟨R, hR⟩ : ∃ R, R = fallR mo ea now F n 0 T [] := ⟨_, rfl⟩
    rw [← hR]
    have HR := Lib.hid hR
    have HN := Lib.hid hn
    have HMO := Lib.hid hmo
    clear h hT hok hkn hy hr hq hF hR hn hmo htM
    dsimp only
    go_enter Tryz.func17, Tryz.ntmps17
    go_wp2_with fail
    refine HRI.out.mono ?_; rintro e w0 ⟨rfl, m0⟩
    have HO := Lib.hid (connOut y yg f s b M g t tM n pm mo ea pa ks T w0 (H.out.new m0) (HY.out.mod m0 (fun h => h) (fun h => h)) hlen HOK.out.i64 HKN.out)
    rw [← HF.out] at HO
    have M0 := Lib.hid m0
    have HZ0 := Lib.hid m0.size
    clear m0 hlen
    go_wp2_with fail
    refine HO.out.mono ?_; rintro e w1 ⟨z, zg, rfl, h1, m1, l1, l2⟩
    have m1 := M0.out.trans m1
    have l1 := Nat.le_trans HZ0.out l1
    have l2 := Nat.le_trans HZ0.out l2
    have H1 := Lib.hid (H.out.new m1)
    have c2' := m1.cell c2 (fun h => h)
    have T1 := Lib.hid (HT.out.mod m1 (fun h => h))
    have Z1 := Lib.hid h1
    have M1 := Lib.hid m1
    have L1 : Hid (w.heap.size ≤ z ∧ w.heap.size ≤ zg) := ⟨l1, l2⟩
    clear h1 m1 l1 l2 c2 HO H HT M0 HZ0
    have hnx := fallR_nx mo ea now F n T [] n 0 (by omega)
    go_wp2_with fail
    refine (bitsNext z zg n F 0 false _ Z1.out T1.out).mono ?_; rintro e w2 ⟨rfl, rfl⟩
    rw [show (0 : Int).toNat = 0 from rfl]
    have HNX : Hid (∃ i : Int, nx F false n 0 = i ∧ ((i = -1 ∧ R = (T, [])) ∨ ∃ k : Nat, i = k ∧ k < n ∧ F k = false ∧ R = fallR mo ea now F (n - k) k T [])) := by
      rcases hnx with ⟨e1, e2⟩ | ⟨i, e1, e2, e3, e4, e5⟩
      · exact ⟨_, e1, .inl ⟨rfl, HR.out.trans e2⟩⟩
      · exact ⟨_, e1, .inr ⟨i, rfl, e3, e4, HR.out.trans e5⟩⟩
    obtain ⟨i0, hi0, hR0⟩ := HNX.out
    rw [hi0]
    clear hnx HNX hi0
    have HR0 := Lib.hid hR0
    clear hR0 HR
    go_wp2_with fail
    go_loopw [8, 10] (fun v i wr => ∃ (T1 l1 : LT) (j : Int), i = .int .i64 j ∧ Hid (j = -1 ∧ R = (T1, l1) ∨ ∃ k : Nat, j = k ∧ k < n ∧ F k = false ∧ R = fallR mo ea now F (n - k) k T1 l1) ∧ Hid (Fl.Okk mo ea T1) ∧ Hid (l1.length ≤ T1.length) ∧ Hid (Fl.TB wr t tM mo ea pa T1) ∧ Hid (wr.ownsRow w1.heap.size Fl.TRq 3 v l1.length (Fl.rqL l1)) ∧ Mod (· = tM) w1 wr) (fun _ i _ => if intOf i < 0 then 0 else n + 1 - (intOf i).toNat)
    case atStart => exact ⟨T, [], i0, rfl, HR0.out, HOK.out, Nat.zero_le _, H1.out.tb, World.ownsRow_nil _ _ _ _, Mod.refl _ _⟩
    case round =>
      obtain ⟨T2, l2, j, rfl, hj, hok2, hll, htb, hown, hm⟩ := hrel
      have hmo := HMO.out
      have hlen : T2.length ≤ 256 := by have := hok2.out.len; omega
      have hl2 : l2.length ≤ 256 := Nat.le_trans hll.out hlen
      have hs2 := hm.cell c2' HTM.out.1
      have HM := Lib.hid hm
      rcases hj.out with ⟨rfl, hRR⟩ | ⟨k, rfl, hkn, hFk, hRR⟩
      · have HRR := Lib.hid hRR
        clear hRR hm hj
        go_wp2_with fail
        go_ret2
        have e := HRR.out
        rw [e]
        refine ⟨⟨_, rfl, ?_⟩, htb.out, (M1.out.mono (S' := (· = tM)) fun _ _ e => e.elim).trans HM.out⟩
        exact hown.out.mono M1.out.size
      · rw [fallR_step hkn hFk] at hRR
        have hki : I64 (k : Int) := Fl.i64_of (by omega) (by have := HN.out; omega)
        have hk0 : decide ((0 : Int) ≤ (k : Int)) = true := by simp
        have HZ := Lib.hid (Z1.out.mod HM.out (by have := L1.out; have := HTM.out; omega) (by have := L1.out; have := HTM.out; omega))
        have HTW := Lib.hid (T1.out.mod HM.out (by have := HTM.out; omega))
        by_cases he : Fl.askE mo ea T2 0 k now = 0
        · rw [if_pos he] at hRR
          have hK : Fl.askK mo ea T2 0 k now = putL T2 k ⟨0, now⟩ := by unfold Fl.askK; rw [if_pos he]
          have hA := Fl.flAsk 0 k now t tM mo ea pa T2 wr hki htb.out (by omega)
          rw [he, hK] at hA
          have HA := Lib.hid hA
          have HOK2 := Lib.hid (hok2.out.put0 he)
          have HRR := Lib.hid hRR
          have hlk : lkL T2 (k : Int) = none := by
            cases hl : lkL T2 (k : Int) with
            | none => rfl
            | some o =>
              exfalso
              unfold Fl.askE at he
              rw [hl] at he
              split at he
              · cases he
              · simp at he
          have HLE : Hid ((l2 ++ [((k : Int), (⟨0, now⟩ : Fl.Rq))]).length ≤ (putL T2 (k : Int) (⟨0, now⟩ : Fl.Rq)).length) := by
            show _ ≤ _
            unfold putL
            rw [del_none hlk, length_insS, List.length_append]
            have := hll.out
            simp only [List.length_cons, List.length_nil]
            omega
          clear hA hK he hj hm hok2 hRR hlk hll
          go_wp2_with fail
          refine HA.out.mono ?_; rintro e w3 ⟨rfl, h3, m3⟩
          have HTB3 := Lib.hid h3
          have hown3 := owns_modG (hown.out) m3 (fun i hi e => by have := HTM.out; have := M1.out.size; omega)
          have OWN3 := Lib.hid hown3
          have HM3 := Lib.hid (HM.out.trans m3)
          have HZ3 := Lib.hid (HZ.out.mod m3 (by have := L1.out; have := HTM.out; omega) (by have := L1.out; have := HTM.out; omega))
          have HTW3 := Lib.hid (HTW.out.mod m3 (by have := HTM.out; omega))
          clear h3 m3 hown3 hown htb HZ HTW HA HM hs2
          go_wp2_with (at_builtin; refine app1 (base := w1.heap.size) rfl (.tmp 37) (.tmp 41) 39 Fl.TRq 3 rfl Tryz.underlying39 Fl.infoRq rfl (by decide) _ _ _ _ 1 [.int .i64 0, .int .i64 k, .int .i64 now] (by have := HM3.out.size; simp; omega) (OWN3.out.alloc _) rfl rfl (sl_new w3 _ _) (by simp [Value.oneCell']) (by decide) (by omega) ?_; intro v' w4 g1 g2 g3
                       have G1 := Lib.hid g1
                       have G2 := Lib.hid (((Mod.refl _ w3).alloc (.cells #[.int .i64 0, .int .i64 k, .int .i64 now] Fl.TRq)).trans g2)
                       clear g1 g2 g3)
          have hzz := Z1.out.lt
          have hge := own_ge OWN3.out
          have HZ4 := Lib.hid (HZ3.out.mod G2.out (fun e => by have := hge _ e; omega) (fun e => by have := hge _ e; omega))
          have HTW4 := Lib.hid (HTW3.out.mod G2.out (fun e => by have := hge _ e; have := HTM.out; have := M1.out.size; omega))
          have HTB4 := Lib.hid (HTB3.out.mod G2.out (fun e => by have := hge _ e; have := H1.out.tb.lt; omega) (fun e => by have := hge _ e; have := H1.out.tb.lt; omega))
          have HM4 := Lib.hid (HM3.out.also G2.out fun i e => .inr (hge i e))
          rw [← rqL_put l2 (k : Int) ⟨0, now⟩] at G1
          have hn9 := HN.out
          rw [show wrap64 ((k : Int) + 1) = ((k + 1 : Nat) : Int) by unfold wrap64; omega]
          have hnx := fallR_nx mo ea now F n (putL T2 (k : Int) ⟨0, now⟩) (l2 ++ [((k : Int), ⟨0, now⟩)]) (n - (k + 1)) (k + 1) rfl
          have HN4 := Lib.hid (bitsNext z zg n F ((k + 1 : Nat) : Int) false w4 HZ4.out HTW4.out)
          rw [Int.toNat_natCast] at HN4
          clear hzz hge HZ3 HTW3 HTB3 HM3 OWN3
          rcases hnx with ⟨e1, e2⟩ | ⟨j, e1, e2, e3, e4, e5⟩
          · rw [e1] at HN4
            have HR2 := Lib.hid (HRR.out.trans e2)
            clear e1 e2
            refine HN4.out.mono ?_; rintro e w5 ⟨rfl, rfl⟩
            go_wp2_with fail
            go_roundw
            case rel => exact ⟨_, _, -1, rfl, .inl ⟨rfl, HR2.out⟩, HOK2.out, HLE.out, HTB4.out, by rw [List.length_append]; exact G1.out, HM4.out⟩
            case measure =>
              show (if intOf (.int .i64 (-1)) < 0 then 0 else n + 1 - (intOf (.int .i64 (-1))).toNat) < (if intOf (.int .i64 (k : Int)) < 0 then 0 else n + 1 - (intOf (.int .i64 (k : Int))).toNat)
              have h0 : ¬ ((k : Int) < 0) := by omega
              simp [intOf, h0]
              omega
          · rw [e1] at HN4
            have HR2 := Lib.hid (HRR.out.trans e5)
            have HF4 := Lib.hid e4
            clear e1 e5 e4
            refine HN4.out.mono ?_; rintro e w5 ⟨rfl, rfl⟩
            go_wp2_with fail
            go_roundw
            case rel => exact ⟨_, _, (j : Int), rfl, .inr ⟨j, rfl, e3, HF4.out, HR2.out⟩, HOK2.out, HLE.out, HTB4.out, by rw [List.length_append]; exact G1.out, HM4.out⟩
            case measure =>
              show (if intOf (.int .i64 (j : Int)) < 0 then 0 else n + 1 - (intOf (.int .i64 (j : Int))).toNat) < (if intOf (.int .i64 (k : Int)) < 0 then 0 else n + 1 - (intOf (.int .i64 (k : Int))).toNat)
              have h0 : ¬ ((k : Int) < 0) := by omega
              have h1 : ¬ ((j : Int) < 0) := by omega
              simp [intOf, h0, h1]
              omega
        · rw [if_neg he] at hRR
          have hK : Fl.askK mo ea T2 0 k now = T2 := by unfold Fl.askK; rw [if_neg he]
          have hA := Fl.flAsk 0 k now t tM mo ea pa T2 wr hki htb.out (by omega)
          rw [hK] at hA
          obtain ⟨E, hE⟩ : ∃ E, E = Fl.askE mo ea T2 0 k now := ⟨_, rfl⟩
          rw [← hE] at hA he
          have he' : (E == 0) = false := by simpa using he
          have HA := Lib.hid hA
          have HRR := Lib.hid hRR
          clear hA hK he hj hm hok2 hRR hE htb
          go_wp2_with fail
          refine HA.out.mono ?_; rintro e w3 ⟨rfl, h3, m3⟩
          have HTB3 := Lib.hid h3
          have OWN3 := Lib.hid (owns_modG (hown.out) m3 (fun i hi e => by have := HTM.out; have := M1.out.size; omega))
          have HM3 := Lib.hid (HM.out.trans m3)
          clear h3 m3 hown HZ HTW HA HM hs2
          go_wp2_with fail
          go_ret2
          have e := HRR.out
          rw [e]
          refine ⟨⟨_, rfl, ?_⟩, HTB3.out, (M1.out.mono (S' := (· = tM)) fun _ _ e => e.elim).trans HM3.out⟩
          exact OWN3.out.mono M1.out.size
  · have e1 : fallA n mo ea now x T = (T, [], 1) := by unfold fallA; rw [if_neg hr]
    rw [e1]
    have hr' : rightA n now x = false := by simpa using hr
    rw [hr'] at HRI
    have HTB := Lib.hid h.tb
    clear h hT hs hok hkn hr hr' e1 hn hmo htM
    go_enter Tryz.func17, Tryz.ntmps17
    go_wp2_with fail
    refine HRI.out.mono ?_; rintro e w1 ⟨rfl, m1⟩
    have HTB1 := Lib.hid (HTB.out.new m1)
    have M1 := Lib.hid m1
    clear m1
    go_wp2_with fail
    go_ret2
    exact ⟨⟨_, rfl, World.ownsRow_nil _ _ _ _⟩, HTB1.out, M1.out.mono fun _ _ e => e.elim⟩
end Go.Proofs.YtjmfhcliggjdgaaGreatDoor

/- What a pick answers; no condition. -/
namespace Go.Proofs.YtjmfhcliggjdgaaGreatDoor
open Go Go.RowKit

/-- Whether one below k is so. -/
def anyB (F : Nat → Bool) : Nat → Bool
  | 0 => false
  | k + 1 => anyB F k || F k
theorem anyB_no {F : Nat → Bool} : ∀ {k : Nat}, anyB F k = false → ∀ y, y < k → F y = false
  | 0, _, y, h => by omega
  | k + 1, h, y, hy => by
    have h' : (anyB F k || F k) = false := h
    obtain ⟨h1, h2⟩ := Bool.or_eq_false_iff.1 h'
    by_cases e : y = k
    · rw [e]; exact h2
    · exact anyB_no h1 y (by omega)
structure PickOk (c : Nat → Int) (F : Nat → Bool) (k : Nat) (l : List Nat) : Prop where
  nil : l = [] → anyB F k = false
  some : l ≠ [] → anyB F k = true
  ok : ∀ x ∈ l, F x = true ∧ x < k ∧ ∀ y, y < k → F y = true → c x ≤ c y
theorem pickL_ok (c : Nat → Int) (F : Nat → Bool) : ∀ k, PickOk c F k (pickL c F k)
  | 0 => ⟨fun _ => rfl, fun h => absurd rfl h, fun x h => by simp [pickL] at h⟩
  | k + 1 => by
    obtain ⟨h1, h2, h3⟩ := pickL_ok c F k
    unfold pickL
    by_cases hk : F k = true
    · rw [if_pos hk]
      have hany : anyB F (k + 1) = true := by show (anyB F k || F k) = true; rw [hk, Bool.or_true]
      cases hl : pickL c F k with
      | nil =>
        have hno := anyB_no (h1 hl)
        show PickOk c F (k + 1) [k]
        refine ⟨fun h => by simp at h, fun _ => hany, fun x hx => ?_⟩
        obtain rfl : x = k := by simpa using hx
        refine ⟨hk, by omega, fun y hy hF => ?_⟩
        by_cases e : y = x
        · rw [e]; exact Int.le_refl _
        · rw [hno y (by omega)] at hF; cases hF
      | cons h t =>
        rw [hl] at h3
        obtain ⟨hF, hlt, hle⟩ := h3 h (List.mem_cons_self ..)
        have hall : ∀ y, y < k + 1 → F y = true → ∀ z, z ≤ c h → z ≤ c k → z ≤ c y := fun y hy hFy z hz1 hz2 => by
          by_cases e : y = k
          · rw [e]; exact hz2
          · have := hle y (by omega) hFy; omega
        show PickOk c F (k + 1) (if c k < c h then [k] else if c k = c h then (h :: t) ++ [k] else h :: t)
        split
        · rename_i hlk
          refine ⟨fun h => by simp at h, fun _ => hany, fun x hx => ?_⟩
          obtain rfl : x = k := by simpa using hx
          exact ⟨hk, by omega, fun y hy hFy => hall y hy hFy _ (by omega) (Int.le_refl _)⟩
        · split
          · rename_i hlk hek
            refine ⟨fun h => by simp at h, fun _ => hany, fun x hx => ?_⟩
            rcases List.mem_append.1 hx with hx | hx
            · obtain ⟨g1, g2, g3⟩ := h3 x hx
              have := g3 h hlt hF
              exact ⟨g1, by omega, fun y hy hFy => hall y hy hFy _ this (by omega)⟩
            · obtain rfl : x = k := by simpa using hx
              exact ⟨hk, by omega, fun y hy hFy => hall y hy hFy _ (by omega) (Int.le_refl _)⟩
          · rename_i hlk hek
            refine ⟨fun h => by simp at h, fun _ => hany, fun x hx => ?_⟩
            obtain ⟨g1, g2, g3⟩ := h3 x hx
            have := g3 h hlt hF
            exact ⟨g1, by omega, fun y hy hFy => hall y hy hFy _ this (by omega)⟩
    · rw [if_neg hk]
      have hk' : F k = false := by simpa using hk
      have hany : anyB F (k + 1) = anyB F k := by show (anyB F k || F k) = _; rw [hk', Bool.or_false]
      refine ⟨fun h => by rw [hany]; exact h1 h, fun h => by rw [hany]; exact h2 h, fun x hx => ?_⟩
      obtain ⟨g1, g2, g3⟩ := h3 x hx
      refine ⟨g1, by omega, fun y hy hFy => ?_⟩
      by_cases e : y = k
      · rw [e, hk'] at hFy; cases hFy
      · exact g3 y (by omega) hFy
/-- What is picked. -/
theorem pickR_ok (c : Nat → Int) (F : Nat → Bool) (n : Nat) (seed : Int) : (pickR c F n seed = -1 ∧ ∀ y, y < n → F y = false) ∨ ∃ x : Nat, pickR c F n seed = x ∧ x < n ∧ F x = true ∧ anyB F n = true ∧ ∀ y, y < n → F y = true → c x ≤ c y := by
  obtain ⟨h1, h2, h3⟩ := pickL_ok c F n
  unfold pickR
  by_cases hl : pickL c F n = []
  · left
    rw [hl]
    exact ⟨rfl, anyB_no (h1 hl)⟩
  · right
    have hpos : 0 < (pickL c F n).length := List.length_pos_iff.2 hl
    rw [if_neg (by omega)]
    obtain ⟨k, hk, hkl⟩ := blw_at seed hpos
    rw [hk, Int.toNat_natCast, List.getD_eq_getElem?_getD, List.getElem?_eq_getElem hkl]
    obtain ⟨g1, g2, g3⟩ := h3 _ (List.getElem_mem hkl)
    exact ⟨_, rfl, g2, g1, h2 hl, g3⟩
end Go.Proofs.YtjmfhcliggjdgaaGreatDoor

/- Package conn: is a number in a list; the asking of one peer for one piece; of TrailingZeros64's table: as it is laid. -/
namespace Go.Proofs.YtjmfhcliggjdgaaGreatDoor
open Go Go.RowKit

theorem sl_ints {w : World} {v : Value} {n : Nat} {xs : List Int} (h : Sl w v 1 n (intL xs)) : xs.length = n ∧ ∃ a c, v = .slice a n c ∧ ∀ i z, xs[i]? = some z → ∃ x, a = some x ∧ w.cell? (x.add i) = some (.int .i64 z) := by
  have hl := h.len
  rw [List.length_map, Nat.mul_one] at hl
  refine ⟨hl, ?_⟩
  rcases h with ⟨rfl, rfl, _⟩ | ⟨x, c, rfl, _, h⟩
  · exact ⟨none, 0, rfl, fun i z hi => by have := (List.getElem?_eq_some_iff.1 hi).1; omega⟩
  · exact ⟨some x, c, rfl, fun i z hi => ⟨x, rfl, h i _ (by rw [List.getElem?_map, hi]; rfl)⟩⟩
set_option maxRecDepth 100000 in
set_option maxHeartbeats 1000000 in
theorem idxInt (v : Value) (n : Nat) (xs : List Int) (p : Int) (w : World) (h : Sl w v 1 n (intL xs)) (hn : n ≤ 9007199254740992) :
    Calls Tryz.prog 84 #[v, .int .i64 p] w fun e w' => (∃ k : Int, e = .returned (.int .i64 k) ∧ decide (0 ≤ k) = decide (p ∈ xs)) ∧ w = w' := by
  obtain ⟨hl, a, c, rfl, hc⟩ := sl_ints h
  have HC := Lib.hid hc
  have HL := Lib.hid hl
  clear h hc hl
  go_enter Tryz.func84, Tryz.ntmps84
  go_wp2_with fail
  go_loopw [8] (fun i wr => ∃ k : Nat, i = .int .i64 k ∧ k ≤ n ∧ Hid (∀ j z, j < k → xs[j]? = some z → z ≠ p) ∧ wr = w) (fun i _ => n - (intOf i).toNat)
  case atStart => exact ⟨0, rfl, Nat.zero_le _, fun j z h => by omega, rfl⟩
  case round =>
    obtain ⟨k, rfl, hk, hno, rfl⟩ := hrel
    by_cases hlt : (k : Int) < n
    · obtain ⟨z, hz⟩ : ∃ z, xs[k]? = some z := ⟨_, List.getElem?_eq_getElem (by have := HL.out; omega)⟩
      obtain ⟨x, rfl, cz⟩ := HC.out k z hz
      have HZ := Lib.hid hz
      have hk1 : n - (k + 1) < n - k := by omega
      clear hz
      by_cases e : p = z
      · subst e
        go_wp2_with fail
        go_ret
        refine ⟨⟨_, rfl, ?_⟩, rfl⟩
        rw [decide_eq_true (List.mem_of_getElem? HZ.out)]
        simp
      · have e' : (p == z) = false := by simpa using e
        go_wp2_with fail
        go_roundw
        case rel =>
          refine ⟨k + 1, by go_num, by omega, fun j y hj hy => ?_, by first | trivial | rfl⟩
          by_cases hjk : j = k
          · subst hjk
            rw [HZ.out] at hy
            cases hy
            exact fun h => e h.symm
          · exact hno.out j y (by omega) hy
        case measure => simp [intOf]; omega
    · have hmem : ¬ p ∈ xs := fun hm => by
        obtain ⟨j, hj⟩ := List.getElem?_of_mem hm
        have := (List.getElem?_eq_some_iff.1 hj).1
        have := HL.out
        exact hno.out j p (by omega) hj rfl
      have HM : Hid (decide (p ∈ xs) = false) := by show _ = _; simpa using hmem
      clear hmem
      go_wp2_with fail
      go_ret
      exact ⟨⟨_, rfl, by have h := HM.out; simp at h; simp [h]⟩, rfl⟩
set_option maxHeartbeats 400000 in
theorem hasInt (v : Value) (n : Nat) (xs : List Int) (p : Int) (w : World) (h : Sl w v 1 n (intL xs)) (hn : n ≤ 9007199254740992) :
    Calls Tryz.prog 50 #[v, .int .i64 p] w fun e w' => e = .returned (.bool (decide (p ∈ xs))) ∧ w = w' := by
  have HI := Lib.hid (idxInt v n xs p w h hn)
  clear h
  go_enter Tryz.func50, Tryz.ntmps50
  go_wp2_with fail
  refine HI.out.mono ?_; rintro e w1 ⟨⟨k, rfl, hk⟩, rfl⟩
  have HKK := Lib.hid hk
  clear hk
  go_wp2_with fail
  go_ret
  exact ⟨by rw [← HKK.out]; rfl, rfl⟩

/-- One more request of a peer: the table and the list behind it; none: it is asked for nothing. -/
def pkS (n : Nat) (L : LB) (f : Nat → Bool) (seed p : Int) (st : LT × LT) : Int := pickA n L p (some (n, outF n f st.1)) (IntKind.u64.wrap (seed + st.2.length))
def askAt (mo ea now p k : Int) (st : LT × LT) : Option (LT × LT) :=
  if k < 0 then none else if Fl.askE mo ea st.1 p k now = 0 then some (putL st.1 k ⟨p, now⟩, st.2 ++ [(k, ⟨p, now⟩)]) else none
def askS (n : Nat) (mo ea : Int) (L : LB) (f : Nat → Bool) (now seed p : Int) (st : LT × LT) : Option (LT × LT) := askAt mo ea now p (pkS n L f seed p st) st
theorem pickA_spec (n : Nat) (L : LB) (p seed : Int) (F : Nat → Bool) : (pickA n L p (some (n, F)) seed = -1 ∧ ∀ o, lkL L p = some o → ∀ y, y < n → o y = true → F y = true) ∨ ∃ x : Nat, pickA n L p (some (n, F)) seed = x ∧ x < n ∧ (∃ o, lkL L p = some o ∧ o x = true) ∧ F x = false := by
  unfold pickA
  dsimp only
  rw [if_pos rfl]
  cases hl : lkL L p with
  | none => exact .inl ⟨rfl, fun o h => by cases h⟩
  | some o =>
    dsimp only
    rcases pickR_ok (cF L) (fLess o F) n seed with ⟨h1, h2⟩ | ⟨x, h1, h2, h3, _, _⟩
    · refine .inl ⟨h1, fun o' ho y hy hoy => ?_⟩
      cases ho
      have := h2 y hy
      unfold fLess at this
      rw [hoy, Bool.true_and] at this
      simpa using this
    · unfold fLess at h3
      rw [Bool.and_eq_true] at h3
      exact .inr ⟨x, h1, h2, ⟨o, rfl, h3.1⟩, by simpa using h3.2⟩

/-- The blocks of an asking. -/
def AskB (cs cn cd cl ct z zg s b M g t tM : Nat) (ks : List (Int × Ow)) (i : Nat) : Prop := SWb s b M g t tM ks i ∨ i = z ∨ i = zg ∨ i = cs ∨ i = cn ∨ i = cd ∨ i = cl ∨ i = ct
/-- What stays while Next asks. -/
structure AskK (base cs cn cd cl ct z zg s b M g t tM n : Nat) (mo : Int) (ks : List (Int × Ow)) (L : LB) : Prop where
  lt : ∀ i, AskB cs cn cd cl ct z zg s b M g t tM ks i → gTab < i ∧ i < base
  n1 : ¬ SWb s b M g t tM ks cl ∧ ¬ SWb s b M g t tM ks zg ∧ z ≠ tM
  n2 : z ≠ cl ∧ zg ≠ cl
  n3 : (cs ≠ tM ∧ cs ≠ zg ∧ cs ≠ cl) ∧ (cn ≠ tM ∧ cn ≠ zg ∧ cn ≠ cl) ∧ (cd ≠ tM ∧ cd ≠ zg ∧ cd ≠ cl) ∧ (ct ≠ tM ∧ ct ≠ zg ∧ ct ≠ cl)
  he : mapV Ow.f ks = L
  sm : mo ≤ 256 ∧ n ≤ 1024
/-- .. and what turns. -/
structure AskI (w : World) (base cs cn cd cl ct z zg s b M g t tM n : Nat) (pm mo ea pa now seed : Int) (ks : List (Int × Ow)) (f : Nat → Bool) (st : LT × LT) : Prop where
  sw : SW w s b M g t tM n pm mo ea pa ks st.1
  set : BSet w z zg n (outF n f st.1)
  b1 : w.cell? ⟨cs, 0, none⟩ = some (.pointer (some ⟨s, 0, none⟩))
  b2 : w.cell? ⟨cn, 0, none⟩ = some (.pointer (some ⟨z, 0, none⟩))
  b3 : w.cell? ⟨cd, 0, none⟩ = some (.int .u64 seed)
  b4 : ∃ v, Blk w cl #[v] 39 ∧ w.ownsRow base Fl.TRq 3 v st.2.length (Fl.rqL st.2)
  b5 : w.cell? ⟨ct, 0, none⟩ = some (.int .i64 now)
  ok : Fl.Okk mo ea st.1
  kn : ∀ q ∈ st.1, q.1 < (n : Int)
  ll : st.2.length ≤ st.1.length
  tab : TabW w
  bb : base ≤ w.heap.size
theorem AskI.new {w w' : World} {base cs cn cd cl ct z zg s b M g t tM n : Nat} {pm mo ea pa now seed : Int} {ks : List (Int × Ow)} {f : Nat → Bool} {st : LT × LT} (h : AskI w base cs cn cd cl ct z zg s b M g t tM n pm mo ea pa now seed ks f st) (hm : Mod (fun _ => False) w w') : AskI w' base cs cn cd cl ct z zg s b M g t tM n pm mo ea pa now seed ks f st := by
  obtain ⟨v, h1, h2⟩ := h.b4
  exact ⟨h.sw.new hm, h.set.mod hm (fun h => h) (fun h => h), hm.cell h.b1 (fun h => h), hm.cell h.b2 (fun h => h), hm.cell h.b3 (fun h => h), ⟨v, h1.mod hm (fun h => h), owns_modG h2 hm fun _ _ h => h⟩, hm.cell h.b5 (fun h => h), h.ok, h.kn, h.ll, h.tab.mod hm (fun h => h), Nat.le_trans h.bb hm.size⟩
/-- An asking that goes on: the table is written, the set, the list. -/
theorem AskI.more {w w2 w3 w4 w5 : World} {base cs cn cd cl ct z zg s b M g t tM n : Nat} {pm mo ea pa now seed : Int} {ks : List (Int × Ow)} {L : LB} {f : Nat → Bool} {T l : LT} (hK : AskK base cs cn cd cl ct z zg s b M g t tM n mo ks L) (h : AskI w base cs cn cd cl ct z zg s b M g t tM n pm mo ea pa now seed ks f (T, l)) {k : Nat} {p : Int} (hk : k < n) (he : Fl.askE mo ea T p k now = 0)
    (hT : Fl.TB w2 t tM mo ea pa (putL T (k : Int) ⟨p, now⟩)) (m2 : Mod (· = tM) w w2) (hS : BSet w3 z zg n (fil (outF n f T) k (k + 1) true)) (m3 : Mod (· = zg) w2 w3) {v v' : Value} (hv : Blk w cl #[v] 39) (m4 : Mod (fun i => base ≤ i) w3 w4) (ho : w4.ownsRow base Fl.TRq 3 v' (l.length + 1) (Fl.rqL (l ++ [((k : Int), ⟨p, now⟩)]))) (h5 : w5 = w4.setCell ⟨cl, 0, none⟩ v') :
    AskI w5 base cs cn cd cl ct z zg s b M g t tM n pm mo ea pa now seed ks f (putL T (k : Int) ⟨p, now⟩, l ++ [((k : Int), ⟨p, now⟩)]) ∧ Mod (fun i => i = tM ∨ i = zg ∨ i = cl ∨ base ≤ i) w w5 := by
  have m5 : Mod (· = cl) w4 w5 := by rw [h5]; exact (Mod.refl (· = cl) w4).set1 0 v'
  have hlk : lkL T (k : Int) = none := by
    cases hl : lkL T (k : Int) with
    | none => rfl
    | some o =>
      exfalso
      unfold Fl.askE at he
      rw [hl] at he
      split at he
      · cases he
      · simp at he
  have hlt := hK.lt
  have hcl := hlt cl (.inr (.inr (.inr (.inr (.inr (.inr (.inl rfl)))))))
  have hzg := hlt zg (.inr (.inr (.inl rfl)))
  have hz := hlt z (.inr (.inl rfl))
  have htM := hlt tM (.inl (.inr (.inr (.inr rfl))))
  have m35 : Mod (fun i => i = cl ∨ base ≤ i) w3 w5 := (m4.mono fun _ _ e => .inr e).trans (m5.mono fun _ _ e => .inl e)
  have m25 : Mod (fun i => i = zg ∨ i = cl ∨ base ≤ i) w2 w5 := (m3.mono fun _ _ e => .inl e).trans (m35.mono fun _ _ e => .inr e)
  have m05 : Mod (fun i => i = tM ∨ i = zg ∨ i = cl ∨ base ≤ i) w w5 := (m2.mono fun _ _ e => .inl e).trans (m25.mono fun _ _ e => .inr e)
  have hx : ∀ {i : Nat} {u : Value}, w.cell? ⟨i, 0, none⟩ = some u → i ≠ tM → i ≠ zg → i ≠ cl → i < base → w5.cell? ⟨i, 0, none⟩ = some u := fun hc h1 h2 h3 h4 => m05.cell hc (by rintro (e | e | e | e); exact h1 e; exact h2 e; exact h3 e; exact absurd e (by simpa using h4))
  have hB := fun i hi => (hlt i hi).2
  obtain ⟨⟨a1, a2, a3⟩, ⟨a4, a5, a6⟩, ⟨a7, a8, a9⟩, ⟨a10, a11, a12⟩⟩ := hK.n3
  refine ⟨⟨(h.sw.tmod hT m2).mod m25 fun i hi => ?_, ?_, hx h.b1 a1 a2 a3 (hB cs (.inr (.inr (.inr (.inl rfl))))), hx h.b2 a4 a5 a6 (hB cn (.inr (.inr (.inr (.inr (.inl rfl)))))), hx h.b3 a7 a8 a9 (hB cd (.inr (.inr (.inr (.inr (.inr (.inl rfl))))))), ⟨v', ?_, ?_⟩, hx h.b5 a10 a11 a12 (hB ct (.inr (.inr (.inr (.inr (.inr (.inr (.inr rfl)))))))), h.ok.put0 he, fun q hq => ?_, ?_, h.tab.mod m05 (by intro e; rcases e with e | e | e | e <;> omega), Nat.le_trans h.bb m05.size⟩, m05⟩
  · rintro (e | e | e)
    · exact hK.n1.2.1 (by rw [← e]; exact hi)
    · exact hK.n1.1 (by rw [← e]; exact hi)
    · have := hB i (.inl hi); omega
  · dsimp only
    rw [outF_put n f T k _ hk]
    exact hS.mod m35 (by rintro (e | e); exact hK.n2.1 e; omega) (by rintro (e | e); exact hK.n2.2 e; omega)
  · have h4 : Blk w4 cl #[v] 39 := (((show Blk w cl #[v] _ from hv).mod m2 (fun e => hK.n1.1 (.inr (.inr (.inr e))))).mod m3 (fun e => hK.n2.2 e.symm)).mod m4 (by omega)
    rw [h5]
    have := h4.set 0 v'
    simpa using this
  · dsimp only
    rw [List.length_append]
    exact owns_modG ho m5 fun i hi e => by omega
  · rcases mem_putO hq with e | e
    · rw [e]; dsimp only; omega
    · exact h.kn q e
  · dsimp only
    unfold putL
    rw [del_none hlk, length_insS, List.length_append]
    have := h.ll
    simp only [List.length_cons, List.length_nil]
    dsimp only at this
    omega

/-- An asking that is refused. -/
theorem AskI.kept {w w2 : World} {base cs cn cd cl ct z zg s b M g t tM n : Nat} {pm mo ea pa now seed : Int} {ks : List (Int × Ow)} {L : LB} {f : Nat → Bool} {T l : LT} (hK : AskK base cs cn cd cl ct z zg s b M g t tM n mo ks L) (h : AskI w base cs cn cd cl ct z zg s b M g t tM n pm mo ea pa now seed ks f (T, l))
    (hT : Fl.TB w2 t tM mo ea pa T) (m2 : Mod (· = tM) w w2) : AskI w2 base cs cn cd cl ct z zg s b M g t tM n pm mo ea pa now seed ks f (T, l) ∧ Mod (fun i => i = tM ∨ i = zg ∨ i = cl ∨ base ≤ i) w w2 := by
  obtain ⟨⟨a1, a2, a3⟩, ⟨a4, a5, a6⟩, ⟨a7, a8, a9⟩, ⟨a10, a11, a12⟩⟩ := hK.n3
  have htM := hK.lt tM (.inl (.inr (.inr (.inr rfl))))
  obtain ⟨v, hv, ho⟩ := h.b4
  exact ⟨⟨h.sw.tmod hT m2, h.set.mod m2 hK.n1.2.2 (fun e => hK.n1.2.1 (.inr (.inr (.inr e)))), m2.cell h.b1 a1, m2.cell h.b2 a4, m2.cell h.b3 a7, ⟨v, hv.mod m2 (fun e => hK.n1.1 (.inr (.inr (.inr e)))), owns_modG ho m2 fun i hi e => by omega⟩, m2.cell h.b5 a10, h.ok, h.kn, h.ll, h.tab.mod m2 (fun e => by omega), Nat.le_trans h.bb m2.size⟩, m2.mono fun _ _ e => .inl e⟩
theorem wrapU {x : Int} (h1 : 0 ≤ x) (h2 : x < 18446744073709551616) : IntKind.u64.wrap x = x := by unfold IntKind.wrap; simp [IntKind.bits, IntKind.signed]; omega
set_option maxRecDepth 100000 in
set_option maxHeartbeats 4000000 in
theorem connAsk (p : Int) (base cs cn cd cl ct z zg s b M g t tM n : Nat) (pm mo ea pa now seed : Int) (ks : List (Int × Ow)) (L : LB) (f : Nat → Bool) (st : LT × LT) (w : World) (hK : AskK base cs cn cd cl ct z zg s b M g t tM n mo ks L) (h : AskI w base cs cn cd cl ct z zg s b M g t tM n pm mo ea pa now seed ks f st) (hI : I64 p) :
    Calls Tryz.prog 46 #[.int .i64 p, .pointer (some ⟨cs, 0, none⟩), .pointer (some ⟨cn, 0, none⟩), .pointer (some ⟨cd, 0, none⟩), .pointer (some ⟨cl, 0, none⟩), .pointer (some ⟨ct, 0, none⟩)] w fun e w' => e = .returned (.bool (askS n mo ea L f now seed p st).isSome) ∧ AskI w' base cs cn cd cl ct z zg s b M g t tM n pm mo ea pa now seed ks f ((askS n mo ea L f now seed p st).getD st) ∧ Mod (fun i => i = tM ∨ i = zg ∨ i = cl ∨ base ≤ i) w w' := by
  obtain ⟨T, l⟩ := st
  have hsm := hK.sm
  have hlen : T.length ≤ 256 := by have := h.ok.len; dsimp only at this; omega
  have hll : l.length ≤ 256 := by have := h.ll; dsimp only at this; omega
  obtain ⟨k, hk⟩ : ∃ k, k = pkS n L f seed p (T, l) := ⟨_, rfl⟩
  obtain ⟨sd, hsd⟩ : ∃ x, x = IntKind.u64.wrap (seed + (l.length : Int)) := ⟨_, rfl⟩
  have hkd : pickA n L p (some (n, outF n f T)) sd = k := by rw [hk, hsd]; rfl
  have hspec := pickA_spec n L p sd (outF n f T)
  rw [hkd] at hspec
  obtain ⟨R, hR⟩ : ∃ R, R = askS n mo ea L f now seed p (T, l) := ⟨_, rfl⟩
  have hRk : R = askAt mo ea now p k (T, l) := by rw [hR, hk]; rfl
  rw [← hR]
  have hP : ∀ rn : Nat, Calls Tryz.prog 47 #[.pointer (some ⟨b, 0, none⟩), .int .i64 p, .pointer (some ⟨z, 0, none⟩), .int .u64 sd] (w.drewN rn) fun e w' => e = .returned (.int .i64 k) ∧ Mod (fun _ => False) (w.drewN rn) w' := fun rn => by
    have hm := (Mod.refl (fun _ => False) w).drewN rn
    have hz := h.set.mod hm (fun h => h) (fun h => h)
    have := codePick p sd (some z) (some (n, outF n f T)) b M g n pm ks L (w.drewN rn) (h.sw.bd.new hm) hK.he (h.tab.mod hm fun h => h) hsm.2 hI (lo := 0) (.inr ⟨z, zg, n, _, rfl, rfl, hz, Nat.zero_le _, Nat.zero_le _⟩)
    rw [hkd] at this
    exact this
  have HP := Lib.hid hP
  obtain ⟨v, hv, ho⟩ := h.b4
  dsimp only at ho
  obtain ⟨a0, cap, rfl, _, _, _⟩ := ho.els
  have a1 := h.b1; have a2 := h.b2; have a3 := h.b3; have a5 := h.b5
  have a4 : w.cell? ⟨cl, 0, none⟩ = some (.slice a0 l.length cap) := hv.cell 0
  have a6 := h.sw.at.2.1
  have a7 := h.sw.at.2.2
  have hw1 : IntKind.u64.wrap (l.length : Int) = l.length := wrapU (by omega) (by omega)
  have hw2 : IntKind.u64.wrap (seed + (l.length : Int)) = sd := hsd.symm
  have HK := Lib.hid hK
  have HI := Lib.hid h
  have HII := Lib.hid hI
  have HSP := Lib.hid hspec
  have HRK := Lib.hid hRk
  have HLN := Lib.hid hlen
  clear hK h hI hP hk hsd hkd hspec hR hRk hsm hv ho hlen
  by_cases hk0 : k < 0
  · have hRn : R = none := by rw [HRK.out]; unfold askAt; rw [if_pos hk0]
    subst hRn
    go_enter Tryz.func46, Tryz.ntmps46
    go_wp2_with fail
    refine wp_region2 [] [] (by kernel_rfl) (by kernel_rfl) ?_
    repeat (first | (refine reg_anyT (by rfl) (fun K hK => ?_); go_simp; refine hK _ _ ?_; clear hK K) | (refine reg_read (by rfl) (fun K hK => ?_); go_simp; refine hK _ _ ?_; clear hK K))
    refine reg_eff (by rfl) (fun rn K hK => ?_); go_simp
    refine (HP.out rn).mono ?_; rintro e w' ⟨rfl, m1⟩
    refine hK _ _ ?_; clear hK K
    repeat (first | (refine reg_anyT (by rfl) (fun K hK => ?_); go_simp; refine hK _ _ ?_; clear hK K) | (refine reg_read (by rfl) (fun K hK => ?_); go_simp; refine hK _ _ ?_; clear hK K))
    refine reg_nil (fun nd => ?_)
    have HI1 := Lib.hid (HI.out.new (m1.undrew.drewN nd))
    have M1 := Lib.hid (m1.undrew.drewN nd)
    clear m1 a1 a2 a3 a4 a5 a6 a7 HI HP
    generalize World.drewN w' nd = w1 at *
    clear w'
    have a1 := HI1.out.b1
    have a5 := HI1.out.b5
    have a7 := HI1.out.sw.at.2.2
    have b0 : decide (k < 0) = true := by simpa using hk0
    go_wp2_with fail
    go_quiet (fail)
    go_wp2_with fail
    go_ret
    exact ⟨rfl, HI1.out.new ((Mod.refl _ w1).drewN _), (M1.out.drewN _).mono fun _ _ e => e.elim⟩
  · obtain ⟨j, rfl⟩ : ∃ j : Nat, k = (j : Int) := ⟨k.toNat, by omega⟩
    have HJN : Hid (j < n) := by
      rcases HSP.out with ⟨h1, _⟩ | ⟨x, h1, h2, _⟩
      · exfalso; omega
      · show j < n; omega
    have HJI : Hid (I64 (j : Int)) := Fl.i64_of (by omega) (by have := HJN.out; have := HK.out.sm; omega)
    obtain ⟨E, hE⟩ : ∃ E, E = Fl.askE mo ea T p j now := ⟨_, rfl⟩
    have HE := Lib.hid hE
    have b0 : decide ((j : Int) < 0) = false := by simp
    by_cases he : E = 0
    · have hRs : R = some (putL T (j : Int) ⟨p, now⟩, l ++ [((j : Int), ⟨p, now⟩)]) := by rw [HRK.out]; unfold askAt; rw [if_neg (by omega)]; dsimp only; rw [← hE, if_pos he]
      subst hRs
      have hK : Fl.askK mo ea T p j now = putL T j ⟨p, now⟩ := by unfold Fl.askK; rw [← hE, if_pos he]
      have HKK := Lib.hid hK
      clear hK hE
      subst he
      go_enter Tryz.func46, Tryz.ntmps46
      go_wp2_with fail
      refine wp_region2 [] [] (by kernel_rfl) (by kernel_rfl) ?_
      repeat (first | (refine reg_anyT (by rfl) (fun K hK => ?_); go_simp; refine hK _ _ ?_; clear hK K) | (refine reg_read (by rfl) (fun K hK => ?_); go_simp; refine hK _ _ ?_; clear hK K))
      refine reg_eff (by rfl) (fun rn K hK => ?_); go_simp
      refine (HP.out rn).mono ?_; rintro e w' ⟨rfl, m1⟩
      refine hK _ _ ?_; clear hK K
      repeat (first | (refine reg_anyT (by rfl) (fun K hK => ?_); go_simp; refine hK _ _ ?_; clear hK K) | (refine reg_read (by rfl) (fun K hK => ?_); go_simp; refine hK _ _ ?_; clear hK K))
      refine reg_nil (fun nd => ?_)
      have HI1 := Lib.hid (HI.out.new (m1.undrew.drewN nd))
      have M1 := Lib.hid (m1.undrew.drewN nd)
      clear m1 a1 a2 a3 a4 a5 a6 a7 HI HP
      generalize World.drewN w' nd = w1 at *
      clear w'
      have a1 := HI1.out.b1
      have a5 := HI1.out.b5
      have a7 := HI1.out.sw.at.2.2
      have hA : ∀ rn : Nat, Calls Tryz.prog 48 #[.pointer (some ⟨t, 0, none⟩), .int .i64 p, .int .i64 j, .int .i64 now] (w1.drewN rn) fun e w' => e = .returned (.int .i64 0) ∧ Fl.TB w' t tM mo ea pa (putL T (j : Int) ⟨p, now⟩) ∧ Mod (· = tM) (w1.drewN rn) w' := fun rn => by
        have := Fl.flAsk p j now t tM mo ea pa T (w1.drewN rn) HJI.out (HI1.out.sw.tb.drewN rn) (by have := HLN.out; omega)
        rw [← HE.out, HKK.out] at this
        exact this
      have HA := Lib.hid hA
      clear hA
      go_wp2_with fail
      refine wp_region2 [] [] (by kernel_rfl) (by kernel_rfl) ?_
      repeat (first | (refine reg_anyT (by rfl) (fun K hK => ?_); go_simp; refine hK _ _ ?_; clear hK K) | (refine reg_read (by rfl) (fun K hK => ?_); go_simp; refine hK _ _ ?_; clear hK K))
      refine reg_eff (by rfl) (fun rn K hK => ?_); go_simp
      refine (HA.out rn).mono ?_; rintro e w' ⟨rfl, h2, m2⟩
      refine hK _ _ ?_; clear hK K
      repeat (first | (refine reg_anyT (by rfl) (fun K hK => ?_); go_simp; refine hK _ _ ?_; clear hK K) | (refine reg_read (by rfl) (fun K hK => ?_); go_simp; refine hK _ _ ?_; clear hK K))
      refine reg_nil (fun nd2 => ?_)
      have HT2 := Lib.hid (h2.drewN nd2)
      have M2 := Lib.hid (m2.undrew.drewN nd2)
      clear h2 m2 a1 a5 a7 HA
      generalize World.drewN w' nd2 = w2 at *
      clear w'
      obtain ⟨v, hv, ho⟩ := HI1.out.b4
      dsimp only at ho
      obtain ⟨a0, cap, rfl, _, _, _⟩ := ho.els
      have HV := Lib.hid hv
      obtain ⟨⟨n1, n2, n3⟩, ⟨n4, n5, n6⟩, ⟨n7, n8, n9⟩, ⟨n10, n11, n12⟩⟩ := HK.out.n3
      have HLT := Lib.hid HK.out.lt
      have a2 := M2.out.cell HI1.out.b2 n4
      have HA4 := Lib.hid (show Blk w2 cl _ _ from hv.mod M2.out (fun e => HK.out.n1.1 (.inr (.inr (.inr e)))))
      have HA5 := Lib.hid (M2.out.cell HI1.out.b5 n10)
      have htM : tM < base := (HLT.out tM (.inl (.inr (.inr (.inr rfl))))).2
      have HO2 := Lib.hid (owns_modG ho M2.out (fun i hi e => by omega))
      have HS2 := Lib.hid (HI1.out.set.mod M2.out HK.out.n1.2.2 (fun e => HK.out.n1.2.1 (.inr (.inr (.inr e)))))
      dsimp only at HS2
      clear ho hv htM n1 n2 n3 n4 n5 n6 n7 n8 n9 n10
      go_wp2_with fail
      refine (bitsPut z zg n (outF n f T) j true w2 HS2.out HJN.out).mono ?_; rintro e w3 ⟨rfl, h3, m3⟩
      have HS3 := Lib.hid h3
      have M3 := Lib.hid m3
      have a5 := m3.cell HA5.out n11
      have hb4 := HA4.out.mod m3 (fun e => HK.out.n2.2 e.symm)
      have a4 : w3.cell? ⟨cl, 0, none⟩ = some (.slice a0 l.length cap) := hb4.cell 0
      have HB4 := Lib.hid (show Blk w3 cl _ _ from hb4)
      have HO3 := Lib.hid (owns_modG HO2.out m3 (fun i hi e => by have := (HLT.out zg (.inr (.inr (.inl rfl)))).2; omega))
      have HCB := Lib.hid ((HLT.out cl (.inr (.inr (.inr (.inr (.inr (.inr (.inl rfl)))))))).2)
      have HBB : Hid (base ≤ w3.heap.size) := by have := HI1.out.bb; have := M2.out.size; have := m3.size; show base ≤ _; omega
      clear h3 m3 hb4 a2 n11 n12 HS2 HO2 HA4 HA5
      go_wp2_with (at_builtin; refine app1 (base := base) rfl (.tmp 37) (.tmp 42) 39 Fl.TRq 3 rfl Tryz.underlying39 Fl.infoRq rfl (by decide) _ _ _ _ 1 [.int .i64 p, .int .i64 j, .int .i64 now] (by have := HBB.out; simp; omega) (HO3.out.alloc _) rfl rfl (sl_new w3 _ _) (by simp [Value.oneCell']) (by decide) (by omega) ?_; intro v' w4 g1 g2 g3
                   obtain ⟨a4', cap4, rfl, _, _, _⟩ := g1.els
                   have G1 := Lib.hid g1
                   have G2 := Lib.hid ((((Mod.refl _ w3).alloc (.cells #[.int .i64 p, .int .i64 j, .int .i64 now] Fl.TRq)).trans g2).mono (S' := fun i => base ≤ i) fun i _ e => own_ge HO3.out i e)
                   have hb4 : Blk w4 cl _ _ := HB4.out.mod G2.out (by have := HCB.out; omega)
                   have f4 : w4.frozen? ⟨cl, 0, none⟩ = false := hb4.frozen 0
                   have c4 : w4.cell? ⟨cl, 0, none⟩ = some (.slice a0 l.length cap) := hb4.cell 0
                   clear hb4
                   clear g1 g2 g3)
      rw [← rqL_put l (j : Int) ⟨p, now⟩] at G1
      have HM := Lib.hid (AskI.more HK.out HI1.out HJN.out HE.out.symm HT2.out M2.out HS3.out M3.out HV.out G2.out G1.out rfl)
      go_ret
      exact ⟨rfl, HM.out.1, (M1.out.mono fun _ _ e => e.elim).trans HM.out.2⟩
    · have hRs : R = none := by rw [HRK.out]; unfold askAt; rw [if_neg (by omega)]; dsimp only; rw [← hE, if_neg he]
      subst hRs
      have hK : Fl.askK mo ea T p j now = T := by unfold Fl.askK; rw [← hE, if_neg he]
      have HKK := Lib.hid hK
      have he' : (E == 0) = false := by simpa using he
      clear hK hE he
      go_enter Tryz.func46, Tryz.ntmps46
      go_wp2_with fail
      refine wp_region2 [] [] (by kernel_rfl) (by kernel_rfl) ?_
      repeat (first | (refine reg_anyT (by rfl) (fun K hK => ?_); go_simp; refine hK _ _ ?_; clear hK K) | (refine reg_read (by rfl) (fun K hK => ?_); go_simp; refine hK _ _ ?_; clear hK K))
      refine reg_eff (by rfl) (fun rn K hK => ?_); go_simp
      refine (HP.out rn).mono ?_; rintro e w' ⟨rfl, m1⟩
      refine hK _ _ ?_; clear hK K
      repeat (first | (refine reg_anyT (by rfl) (fun K hK => ?_); go_simp; refine hK _ _ ?_; clear hK K) | (refine reg_read (by rfl) (fun K hK => ?_); go_simp; refine hK _ _ ?_; clear hK K))
      refine reg_nil (fun nd => ?_)
      have HI1 := Lib.hid (HI.out.new (m1.undrew.drewN nd))
      have M1 := Lib.hid (m1.undrew.drewN nd)
      clear m1 a1 a2 a3 a4 a5 a6 a7 HI HP
      generalize World.drewN w' nd = w1 at *
      clear w'
      have a1 := HI1.out.b1
      have a5 := HI1.out.b5
      have a7 := HI1.out.sw.at.2.2
      have hA : ∀ rn : Nat, Calls Tryz.prog 48 #[.pointer (some ⟨t, 0, none⟩), .int .i64 p, .int .i64 j, .int .i64 now] (w1.drewN rn) fun e w' => e = .returned (.int .i64 E) ∧ Fl.TB w' t tM mo ea pa T ∧ Mod (· = tM) (w1.drewN rn) w' := fun rn => by
        have := Fl.flAsk p j now t tM mo ea pa T (w1.drewN rn) HJI.out (HI1.out.sw.tb.drewN rn) (by have := HLN.out; omega)
        rw [← HE.out, HKK.out] at this
        exact this
      have HA := Lib.hid hA
      clear hA
      go_wp2_with fail
      refine wp_region2 [] [] (by kernel_rfl) (by kernel_rfl) ?_
      repeat (first | (refine reg_anyT (by rfl) (fun K hK => ?_); go_simp; refine hK _ _ ?_; clear hK K) | (refine reg_read (by rfl) (fun K hK => ?_); go_simp; refine hK _ _ ?_; clear hK K))
      refine reg_eff (by rfl) (fun rn K hK => ?_); go_simp
      refine (HA.out rn).mono ?_; rintro e w' ⟨rfl, h2, m2⟩
      refine hK _ _ ?_; clear hK K
      repeat (first | (refine reg_anyT (by rfl) (fun K hK => ?_); go_simp; refine hK _ _ ?_; clear hK K) | (refine reg_read (by rfl) (fun K hK => ?_); go_simp; refine hK _ _ ?_; clear hK K))
      refine reg_nil (fun nd2 => ?_)
      have HT2 := Lib.hid (h2.drewN nd2)
      have M2 := Lib.hid (m2.undrew.drewN nd2)
      clear h2 m2 a1 a5 a7 HA
      generalize World.drewN w' nd2 = w2 at *
      clear w'
      have HM := Lib.hid (AskI.kept HK.out HI1.out HT2.out M2.out)
      go_wp2_with fail
      go_ret
      exact ⟨rfl, HM.out.1, (M1.out.mono fun _ _ e => e.elim).trans HM.out.2⟩
end Go.Proofs.YtjmfhcliggjdgaaGreatDoor

/- Package conn: Next; of TrailingZeros64's table: as it is laid. -/
namespace Go.Proofs.YtjmfhcliggjdgaaGreatDoor
open Go Go.RowKit

/-- A peer is asked for as much as there is. -/
def runS (n : Nat) (mo ea : Int) (L : LB) (f : Nat → Bool) (now seed p : Int) : Nat → LT × LT → LT × LT
  | 0, st => st
  | m + 1, st => match askS n mo ea L f now seed p st with
    | none => st
    | some st' => runS n mo ea L f now seed p m st'
/-- Every peer that may be asked. -/
def nextS (n : Nat) (mo ea : Int) (L : LB) (f : Nat → Bool) (now seed : Int) (may : List Int) : List Int → LT × LT → LT × LT
  | [], st => st
  | p :: ps, st => nextS n mo ea L f now seed may ps (if p ∈ may then runS n mo ea L f now seed p 300 st else st)
/-- What Next does: the table, the requests, the error. -/
def nextA (n : Nat) (mo ea : Int) (L : LB) (now : Int) (x : Option (Nat × (Nat → Bool))) (may : List Int) (seed : Int) (T : LT) : LT × LT × Int :=
  if rightA n now x = true then ((nextS n mo ea L (x.getD (0, fun _ => false)).2 now seed may (keysL L) (T, [])).1, (nextS n mo ea L (x.getD (0, fun _ => false)).2 now seed may (keysL L) (T, [])).2, 0) else (T, [], 1)
theorem nextA_some {n : Nat} {mo ea : Int} {L : LB} {now : Int} {f : Nat → Bool} {may : List Int} {seed : Int} {T : LT} (hq : 0 ≤ now ∧ now ≤ 1099511627776) : nextA n mo ea L now (some (n, f)) may seed T = ((nextS n mo ea L f now seed may (keysL L) (T, [])).1, (nextS n mo ea L f now seed may (keysL L) (T, [])).2, 0) := by
  unfold nextA
  rw [if_pos (by unfold rightA; simp [hq])]
  rfl
theorem askS_len {n : Nat} {mo ea : Int} {L : LB} {f : Nat → Bool} {now seed p : Int} {st st' : LT × LT} (h : askS n mo ea L f now seed p st = some st') : st'.2.length = st.2.length + 1 := by
  unfold askS askAt at h
  split at h
  · cases h
  · split at h
    · cases h; simp
    · cases h
theorem runS_none {n : Nat} {mo ea : Int} {L : LB} {f : Nat → Bool} {now seed p : Int} {m : Nat} {st : LT × LT} (h : askS n mo ea L f now seed p st = none) : runS n mo ea L f now seed p (m + 1) st = st := by
  show (match askS n mo ea L f now seed p st with | none => st | some st' => runS n mo ea L f now seed p m st') = st
  rw [h]
theorem runS_some {n : Nat} {mo ea : Int} {L : LB} {f : Nat → Bool} {now seed p : Int} {m : Nat} {st st' : LT × LT} (h : askS n mo ea L f now seed p st = some st') : runS n mo ea L f now seed p (m + 1) st = runS n mo ea L f now seed p m st' := by
  show (match askS n mo ea L f now seed p st with | none => st | some st' => runS n mo ea L f now seed p m st') = _
  rw [h]
/-- How long the list is that lies in a box. -/
def lenAt (w : World) (b : Nat) : Nat := match w.cell? ⟨b, 0, none⟩ with
  | some (.slice _ n _) => n
  | _ => 0
theorem Sl.keepM {S : Nat → Prop} {w w' : World} {v : Value} {n : Nat} {xs : List Value} (h : Sl w v 1 n xs) (hm : Mod S w w') (hS : ∀ x m c, v = .slice (some x) m c → 0 < n → ¬ S x.block) : Sl w' v 1 n xs := by
  rcases h with h | ⟨x, c, rfl, hl, h⟩
  · exact .inl h
  · refine .inr ⟨x, c, rfl, hl, fun j u hj => hm.cell (h j u hj) ?_⟩
    rw [Addr.add_block]
    exact hS x _ c rfl (by have := (List.getElem?_eq_some_iff.1 hj).1; omega)
theorem AskI.len {w : World} {base cs cn cd cl ct z zg s b M g t tM n : Nat} {pm mo ea pa now seed : Int} {ks : List (Int × Ow)} {f : Nat → Bool} {st : LT × LT} (h : AskI w base cs cn cd cl ct z zg s b M g t tM n pm mo ea pa now seed ks f st) : lenAt w cl = st.2.length := by
  obtain ⟨v, h1, h2⟩ := h.b4
  obtain ⟨a, cap, rfl, _⟩ := h2.els
  have hc : w.cell? ⟨cl, 0, none⟩ = some (.slice a st.2.length cap) := h1.cell 0
  unfold lenAt
  rw [hc]
set_option maxRecDepth 100000 in
set_option maxHeartbeats 4000000 in
theorem connNext (now seed : Int) (so : Option Nat) (x : Option (Nat × (Nat → Bool))) (mv : Value) (ml : Nat) (may : List Int) (s b M g t tM n : Nat) (pm mo ea pa : Int) (ks : List (Int × Ow)) (L : LB) (T : LT) (w : World) (h : SW w s b M g t tM n pm mo ea pa ks T) (hT : TabW w) {lo : Nat} (hs : SoB lo w so x) (hm : Sl w mv 1 ml (intL may)) (hml : ml ≤ 9007199254740992) (hmv : ∀ x m c, mv = .slice (some x) m c → 0 < ml → x.block ≠ tM) (he : mapV Ow.f ks = L) (hok : Fl.Okk mo ea T) (hob : OkB pm L) (hmo : mo ≤ 256) (hpm : pm ≤ 64) (hkn : ∀ q ∈ T, q.1 < (n : Int)) (hn : n ≤ 1024) (hlow : ∀ i, SWb s b M g t tM ks i → gTab < i) :
    Calls Tryz.prog 13 #[.pointer (some ⟨s, 0, none⟩), .int .i64 now, .pointer (so.map fun s => ⟨s, 0, none⟩), mv, .int .u64 seed] w fun e w' => RqE (nextA n mo ea L now x may seed T).2.1 (nextA n mo ea L now x may seed T).2.2 w e w' ∧ Fl.TB w' t tM mo ea pa (nextA n mo ea L now x may seed T).1 ∧ Mod (· = tM) w w' := by
  have hslt : s < w.heap.size := h.blk.lt
  have hrr := fun w' (m : Mod (fun _ => False) w w') => connRight now so x s n w' (m.cell h.at.1 (fun h => h)) (lo := lo) (by
    rcases hs with ⟨e1, e2⟩ | ⟨y, yg, m', f', e1, e2, hy, l1, l2⟩
    · exact .inl ⟨e1, e2⟩
    · exact .inr ⟨y, yg, m', f', e1, e2, hy.mod m (fun h => h) (fun h => h), l1, l2⟩)
  have HRI := Lib.hid hrr
  clear hrr
  have ma : Mod (fun _ => False) w (((w.alloc (.cells #[.pointer (some ⟨s, 0, none⟩)] 30)).alloc (.cells #[.int .i64 now] 3)).alloc (.cells #[.int .u64 seed] 26)) := (((Mod.refl (fun _ => False) w).alloc _).alloc _).alloc _
  obtain ⟨wa, hwa⟩ : ∃ wa, wa = (((w.alloc (.cells #[.pointer (some ⟨s, 0, none⟩)] 30)).alloc (.cells #[.int .i64 now] 3)).alloc (.cells #[.int .u64 seed] 26)) := ⟨_, rfl⟩
  rw [← hwa] at ma
  have bs : wa.cell? ⟨w.heap.size, 0, none⟩ = some (.pointer (some ⟨s, 0, none⟩)) := by rw [hwa]; exact (((Blk.new w _ _).alloc _).alloc _).cell 0
  have bt : wa.cell? ⟨w.heap.size + 1, 0, none⟩ = some (.int .i64 now) := by
    rw [hwa]
    have := ((Blk.new (w.alloc (.cells #[.pointer (some ⟨s, 0, none⟩)] 30)) #[.int .i64 now] 3).alloc (.cells #[.int .u64 seed] 26)).cell 0
    simpa using this
  have bd : wa.cell? ⟨w.heap.size + 1 + 1, 0, none⟩ = some (.int .u64 seed) := by
    rw [hwa]
    have := (Blk.new ((w.alloc (.cells #[.pointer (some ⟨s, 0, none⟩)] 30)).alloc (.cells #[.int .i64 now] 3)) #[.int .u64 seed] 26).cell 0
    simpa using this
  have za : wa.heap.size = w.heap.size + 3 := by rw [hwa]; simp
  by_cases hr : rightA n now x = true
  · obtain ⟨hq, f, rfl⟩ := rightA_some hr
    rw [hr] at HRI
    rw [nextA_some hq]
    rcases hs with ⟨_, e⟩ | ⟨y, yg, m, f', rfl, e, hy, _, _⟩
    · cases e
    cases e
    have hlen : T.length ≤ 256 := by have := hok.len; omega
    have hlk : ks.length ≤ 64 := by have h1 := hob.len; rw [← he, mapV_len] at h1; omega
    have HY := Lib.hid (hy.mod ma (fun h => h) (fun h => h))
    have HRIa := Lib.hid (HRI.out wa ma)
    have HSWa := Lib.hid (h.new ma)
    have HTa := Lib.hid (hT.mod ma fun h => h)
    have HMV : Hid (∀ x m c, mv = .slice (some x) m c → 0 < ml → x.block ≠ tM ∧ x.block < w.heap.size) := fun x m c e h0 => by
      refine ⟨hmv x m c e h0, ?_⟩
      obtain ⟨hml', a, c', hv, hc⟩ := sl_ints hm
      rw [hv] at e
      cases e
      obtain ⟨x', e', hx⟩ := hc 0 _ (List.getElem?_eq_getElem (by omega))
      cases e'
      have := World.block_lt_of_cell? w _ hx
      rwa [Addr.add_block] at this
    have HMAY := Lib.hid (hm.mod ma (fun _ _ _ _ h => h))
    have HMA := Lib.hid ma
    have HOK := Lib.hid hok
    have HKN := Lib.hid hkn
    have HKK : Hid (∀ q ∈ T, 0 ≤ q.1 ∧ q.1 < (n : Int)) := fun q hq => ⟨(hok.rng q hq).1, hkn q hq⟩
    have HKI : Hid (∀ p ∈ keysL L, I64 p) := fun p hp => by
      unfold keysL at hp
      obtain ⟨q, hq, rfl⟩ := List.mem_map.1 hp
      exact hob.i64 q hq
    have HLOW := Lib.hid hlow
    have HLT : Hid (∀ i, SWb s b M g t tM ks i → i < w.heap.size) := fun i hi => h.lt hi
    have HSM : Hid (mo ≤ 256 ∧ n ≤ 1024 ∧ ks.length ≤ 64 ∧ gTab < w.heap.size) := ⟨hmo, hn, hlk, hT.lt⟩
    have HE := Lib.hid he
    have HKL : Hid ((keysL L).length ≤ 64) := by show (keysL L).length ≤ 64; unfold keysL; rw [List.length_map]; have := hob.len; omega
    obtain ⟨R, hR⟩ : ∃ R, R = nextS n mo ea L f now seed may (keysL L) (T, []) := ⟨_, rfl⟩
    rw [← hR]
    have HR := Lib.hid hR
    have HZA := Lib.hid za
    clear h hT hok hkn hy hr hR hn hmo hpm hob hlow hlk he hm ma HRI hslt hq za hmv
    dsimp only
    go_enter Tryz.func13, Tryz.ntmps13
    go_wp2_with fail
    go_step3
    go_upto_region 1 with fail
    rw [← hwa]
    clear hwa
    go_wp2_with fail
    refine HRIa.out.mono ?_; rintro e w1 ⟨rfl, m1⟩
    have bs := m1.cell bs (fun h => h); have bt := m1.cell bt (fun h => h); have bd := m1.cell bd (fun h => h)
    have HO := Lib.hid (connOut y yg f s b M g t tM n pm mo ea pa ks T w1 (HSWa.out.new m1) (HY.out.mod m1 (fun h => h) (fun h => h)) hlen HOK.out.i64 HKK.out)
    have HM1 := Lib.hid (HMA.out.trans m1)
    have HZ1 := Lib.hid m1.size
    have HSW1 := Lib.hid (HSWa.out.new m1)
    have HT1 := Lib.hid (HTa.out.mod m1 fun h => h)
    have HMAY1 := Lib.hid (HMAY.out.mod m1 (fun _ _ _ _ h => h))
    clear m1 HSWa HY HTa HMAY HMA HRIa
    go_wp2_with fail
    refine HO.out.mono ?_; rintro e w2 ⟨z, zg, rfl, h2, m2, l1, l2⟩
    have m3 : Mod (fun _ => False) w2 ((w2.alloc (.cells #[.pointer (some ⟨z, 0, none⟩)] 43)).alloc (.cells #[.slice none 0 0] 39)) := ((Mod.refl (fun _ => False) w2).alloc _).alloc _
    obtain ⟨w3, hw3⟩ : ∃ w3, w3 = ((w2.alloc (.cells #[.pointer (some ⟨z, 0, none⟩)] 43)).alloc (.cells #[.slice none 0 0] 39)) := ⟨_, rfl⟩
    rw [← hw3] at m3
    have m23 := m2.trans m3
    have bn : w3.cell? ⟨w2.heap.size, 0, none⟩ = some (.pointer (some ⟨z, 0, none⟩)) := by rw [hw3]; exact ((Blk.new w2 _ _).alloc _).cell 0
    have HBL : Hid (Blk w3 (w2.heap.size + 1) #[.slice none 0 0] 39) := by
      show Blk _ _ _ _
      rw [hw3]
      have := Blk.new (w2.alloc (.cells #[.pointer (some ⟨z, 0, none⟩)] 43)) #[.slice none 0 0] 39
      simpa using this
    have HZ3 : Hid (w3.heap.size = w2.heap.size + 2) := by show _ = _; rw [hw3]; simp
    have bs := m2.cell bs (fun h => h)
    have HBS := Lib.hid (m3.cell bs (fun h => h)); have HBT := Lib.hid (m23.cell bt (fun h => h)); have HBD := Lib.hid (m23.cell bd (fun h => h))
    have HBN := Lib.hid bn
    have HSW3 := Lib.hid (HSW1.out.new m23)
    have HS3 := Lib.hid (h2.mod m3 (fun h => h) (fun h => h))
    have HT3 := Lib.hid (HT1.out.mod m23 fun h => h)
    have HMAY3 := Lib.hid (HMAY1.out.mod m23 (fun _ _ _ _ h => h))
    have HM3 := Lib.hid (HM1.out.trans m23)
    have HLZ : Hid ((w1.heap.size ≤ z ∧ z < w2.heap.size) ∧ w1.heap.size ≤ zg ∧ zg < w2.heap.size) := ⟨⟨l1, h2.lt.1⟩, l2, h2.lt.2⟩
    have hpe := rarePeers b M g n pm (cO ks) ks w3 HSW3.out.bd (by have := HSM.out; omega)
    rw [← keys_mapV Ow.f ks, HE.out] at hpe
    have HPE := Lib.hid hpe
    have c1 := HSW3.out.at.2.1
    have bs3 := HBS.out
    clear h2 m2 m23 l1 l2 bt bd bn hpe HSW1 HT1 HMAY1 HM1 HO
    have c1' := (HSW3.out.at.2.1)
    clear c1'
    go_upto_region 6 with fail
    rw [← hw3]
    clear hw3
    go_wp2_with fail
    go_step3
    go_wp2_with fail
    refine HPE.out.mono ?_; rintro e w4 ⟨v, rfl, o4, m4⟩
    obtain ⟨hkl, a, c, rfl, hcells⟩ := sl_ints o4.sl
    have HCE := Lib.hid hcells
    have HXB : Hid (∀ X : Addr, a = some X → w3.heap.size ≤ X.block ∧ X.block < w4.heap.size) := fun X e => by subst e; exact o4.blk X _ _ rfl
    obtain ⟨cd, hcd⟩ : ∃ x, x = w.heap.size + 1 + 1 := ⟨_, rfl⟩
    obtain ⟨ct, hct⟩ : ∃ x, x = w.heap.size + 1 := ⟨_, rfl⟩
    obtain ⟨cs, hcs⟩ : ∃ x, x = w.heap.size := ⟨_, rfl⟩
    obtain ⟨cl, hcl⟩ : ∃ x, x = w2.heap.size + 1 := ⟨_, rfl⟩
    obtain ⟨cn, hcn⟩ : ∃ x, x = w2.heap.size := ⟨_, rfl⟩
    rw [← hcd] at HBD; rw [← hct] at HBT; rw [← hcs] at HBS; rw [← hcl] at HBL; rw [← hcn] at HBN
    have HK : Hid (AskK w4.heap.size cs cn cd cl ct z zg s b M g t tM n mo ks L) := by
      have k1 := HZA.out; have k2 := HZ1.out; have k3 := HZ3.out; have k4 := m4.size; have k5 := HLZ.out; have k6 := HSM.out; have k7 := HM3.out.size
      have kt := HLT.out tM (.inr (.inr (.inr rfl)))
      refine ⟨fun i hi => ?_, ⟨fun e => by have := HLT.out _ e; omega, fun e => by have := HLT.out _ e; omega, by omega⟩, ⟨by omega, by omega⟩, ⟨⟨by omega, by omega, by omega⟩, ⟨by omega, by omega, by omega⟩, ⟨by omega, by omega, by omega⟩, ⟨by omega, by omega, by omega⟩⟩, HE.out, ⟨k6.1, k6.2.1⟩⟩
      rcases hi with e | e | e | e | e | e | e | e
      · have h1 := HLT.out i e
        have h2 := HLOW.out i e
        omega
      all_goals omega
    have HAI : Hid (AskI w4 w4.heap.size cs cn cd cl ct z zg s b M g t tM n pm mo ea pa now seed ks f (T, [])) :=
      ⟨HSW3.out.new m4, HS3.out.mod m4 (fun h => h) (fun h => h), m4.cell HBS.out (fun h => h), m4.cell HBN.out (fun h => h), m4.cell HBD.out (fun h => h), ⟨_, HBL.out.mod m4 (fun h => h), World.ownsRow_nil _ _ _ _⟩, m4.cell HBT.out (fun h => h), HOK.out, HKN.out, Nat.zero_le _, HT3.out.mod m4 (fun h => h), Nat.le_refl _⟩
    have HMAY4 := Lib.hid (HMAY3.out.mod m4 (fun _ _ _ _ h => h))
    have HM4 := Lib.hid (HM3.out.trans m4)
    have HXC : Hid (∀ X : Addr, a = some X → X.block ≠ tM ∧ X.block ≠ zg ∧ X.block ≠ cl ∧ X.block < w4.heap.size) := fun X e => by
      have h1 := HXB.out X e
      have k3 := HZ3.out; have k5 := HLZ.out; have kt := HLT.out tM (.inr (.inr (.inr rfl))); have k7 := HM3.out.size
      omega
    have HKB : Hid ((w.heap.size ≤ zg ∧ w.heap.size ≤ cl) ∧ w.heap.size ≤ w4.heap.size) := by
      have k1 := HZA.out; have k2 := HZ1.out; have k3 := HZ3.out; have k5 := HLZ.out; have k7 := HM4.out.size
      show (_ ∧ _) ∧ _
      omega
    rw [← hcd, ← hct, ← hcs, ← hcl, ← hcn]
    obtain ⟨KL, hKL⟩ : ∃ x, x = keysL L := ⟨_, rfl⟩
    rw [← hKL] at HR HCE HKI HKL hkl ⊢
    clear hcd hct hcs hcl hcn hkl o4 hcells m4 HBS HBN HBD HBL HBT HSW3 HS3 HT3 HMAY3 HM3 HXB HLZ HZ1 HZ3 HZA HLT HLOW HSM HPE c1 bs3 bs m3 hKL HKK HKN HOK hlen
    go_wp2_with fail
    go_loopw [32] (fun i wr => ∃ (k : Nat) (st : LT × LT), i = .int .i64 k ∧ k ≤ KL.length ∧ Hid (AskI wr w4.heap.size cs cn cd cl ct z zg s b M g t tM n pm mo ea pa now seed ks f st) ∧ Hid (nextS n mo ea L f now seed may (KL.drop k) st = R) ∧ Hid (Mod (fun i => i = tM ∨ i = zg ∨ i = cl ∨ w4.heap.size ≤ i) w4 wr)) (fun i _ => KL.length - (intOf i).toNat)
    case atStart => exact ⟨0, (T, []), rfl, Nat.zero_le _, HAI.out, by show _ = _; rw [HR.out]; rfl, Mod.refl _ _⟩
    case round =>
      obtain ⟨k, st1, rfl, hk, hI, hRR, hM⟩ := hrel
      by_cases hlt : (k : Int) < KL.length
      · have hlt2 : k < KL.length := by omega
        obtain ⟨p, hp⟩ : ∃ p, KL[k]? = some p := ⟨_, List.getElem?_eq_getElem hlt2⟩
        obtain ⟨X, rfl, px⟩ := HCE.out k p hp
        have hX := HXC.out X rfl
        have px := hM.out.cell px (by rw [Addr.add_block]; omega)
        have HPI := Lib.hid (HKI.out p (List.mem_of_getElem? hp))
        have HST : Hid (nextS n mo ea L f now seed may (KL.drop (k + 1)) (if p ∈ may then runS n mo ea L f now seed p 300 st1 else st1) = R) := by
          have := hRR.out
          rw [List.drop_eq_getElem_cons hlt2, (List.getElem?_eq_some_iff.1 hp).2] at this
          exact this
        have HK2 : Hid (k < KL.length ∧ KL.length ≤ 64) := ⟨hlt2, HKL.out⟩
        obtain ⟨wb, hwb⟩ : ∃ wb : World, wb = wr := ⟨_, rfl⟩
        rw [← hwb] at hI hM px ⊢
        clear hwb hp hX hRR
        go_wp2_with fail
        go_loopw [] (fun wr => ∃ (m : Nat) (st2 : LT × LT), Hid (AskI wr w4.heap.size cs cn cd cl ct z zg s b M g t tM n pm mo ea pa now seed ks f st2) ∧ Hid (m + st2.2.length = 300 + st1.2.length) ∧ Hid ((if p ∈ may then runS n mo ea L f now seed p m st2 else st2) = (if p ∈ may then runS n mo ea L f now seed p 300 st1 else st1)) ∧ Hid (Mod (fun i => i = tM ∨ i = zg ∨ i = cl ∨ w4.heap.size ≤ i) w4 wr)) (fun wr => 600 - lenAt wr cl)
        case atStart => exact ⟨300, st1, hI.out, rfl, rfl, hM.out⟩
        case round =>
          obtain ⟨m, st2, hI2, hm2, hr2, hM2⟩ := hrel
          have hbm : st2.2.length ≤ 256 := by have h1 := hI2.out.ll; have h2 := hI2.out.ok.len; have h3 := HK.out.sm; omega
          have HHI := Lib.hid (hasInt mv ml may p wr (HMAY4.out.keepM hM2.out fun x m c e h0 => by
            have h1 := HMV.out x m c e h0
            have h2 := HKB.out
            omega) hml)
          by_cases hpm : p ∈ may
          · rw [decide_eq_true hpm] at HHI
            rw [if_pos hpm, if_pos hpm] at hr2
            rw [if_pos hpm] at HST
            obtain ⟨m', rfl⟩ : ∃ m', m = m' + 1 := ⟨m - 1, by have := hm2.out; omega⟩
            obtain ⟨A, hA⟩ : ∃ A, A = askS n mo ea L f now seed p st2 := ⟨_, rfl⟩
            have HA := connAsk p w4.heap.size cs cn cd cl ct z zg s b M g t tM n pm mo ea pa now seed ks L f st2 wr HK.out hI2.out HPI.out
            have hrs1 : A = none → runS n mo ea L f now seed p (m' + 1) st2 = st2 := fun e => runS_none (hA.symm.trans e)
            have hrs2 : ∀ st', A = some st' → runS n mo ea L f now seed p (m' + 1) st2 = runS n mo ea L f now seed p m' st' := fun st' e => runS_some (hA.symm.trans e)
            rw [← hA] at HA
            have HLA : Hid (∀ st', A = some st' → st'.2.length = st2.2.length + 1) := fun st' e => askS_len (hA.symm.trans e)
            have HLN2 := Lib.hid hI2.out.len
            have HAA := Lib.hid HA
            clear HA hA
            cases A with
            | none =>
              have HR3 := Lib.hid ((hrs1 rfl).symm.trans hr2.out)
              clear hrs1 hrs2 hr2 hm2 hI2
              go_wp2_with fail
              refine HHI.out.mono ?_; rintro e w5 ⟨rfl, rfl⟩
              go_wp2_with fail
              refine HAA.out.mono ?_; rintro e w5 ⟨rfl, hI5, hM5⟩
              have HI5 := Lib.hid hI5
              have HM5 := Lib.hid (hM2.out.trans2 hM5 fun i e => .inl e)
              clear hI5 hM5
              go_wp2_with fail
              go_roundw
              case rel =>
                have hk2 := HK2.out
                have hkw : wrap64 ((k : Int) + 1) = ((k + 1 : Nat) : Int) := by unfold wrap64; omega
                exact ⟨k + 1, st2, by rw [hkw], by omega, HI5.out, by show _ = _; rw [HR3.out]; exact HST.out, HM5.out⟩
              case measure =>
                have hk2 := HK2.out
                have hkw : wrap64 ((k : Int) + 1) = ((k + 1 : Nat) : Int) := by unfold wrap64; omega
                rw [hkw]
                simp [intOf]
                omega
            | some st3 =>
              have HR3 := Lib.hid ((hrs2 _ rfl).symm.trans hr2.out)
              have HL3 := Lib.hid (HLA.out _ rfl)
              have HMM : Hid (m' + st3.2.length = 300 + st1.2.length) := by have h1 := hm2.out; have h2 := HL3.out; show _ = _; omega
              clear hrs1 hrs2 hr2 hm2 hI2 HLA
              go_wp2_with fail
              refine HHI.out.mono ?_; rintro e w5 ⟨rfl, rfl⟩
              go_wp2_with fail
              refine HAA.out.mono ?_; rintro e w5 ⟨rfl, hI5, hM5⟩
              have HI5 := Lib.hid hI5
              have HM5 := Lib.hid (hM2.out.trans2 hM5 fun i e => .inl e)
              have HLN3 := Lib.hid hI5.len
              clear hI5 hM5
              go_wp2_with fail
              go_roundw
              case rel => exact ⟨m', st3, HI5.out, HMM.out, by show _ = _; rw [if_pos hpm, if_pos hpm]; exact HR3.out, HM5.out⟩
              case measure =>
                have h1 := HLN2.out
                have h2 : lenAt w5 cl = st3.2.length := HLN3.out
                have h3 := HL3.out
                show 600 - lenAt w5 cl < 600 - lenAt wr cl
                omega
          · rw [decide_eq_false hpm] at HHI
            rw [if_neg hpm, if_neg hpm] at hr2
            rw [if_neg hpm] at HST
            have HR3 := Lib.hid hr2.out
            clear hr2 hm2
            go_wp2_with fail
            refine HHI.out.mono ?_; rintro e w5 ⟨rfl, rfl⟩
            go_wp2_with fail
            go_roundw
            case rel =>
                have hk2 := HK2.out
                have hkw : wrap64 ((k : Int) + 1) = ((k + 1 : Nat) : Int) := by unfold wrap64; omega
                exact ⟨k + 1, st2, by rw [hkw], by omega, hI2.out, by show _ = _; rw [HR3.out]; exact HST.out, hM2.out⟩
            case measure =>
                have hk2 := HK2.out
                have hkw : wrap64 ((k : Int) + 1) = ((k + 1 : Nat) : Int) := by unfold wrap64; omega
                rw [hkw]
                simp [intOf]
                omega
      · have hkd : KL.drop k = [] := List.drop_eq_nil_of_le (by omega)
        have hR2 := hRR.out
        rw [hkd] at hR2
        have hR3 : st1 = R := hR2
        subst hR3
        obtain ⟨v, hv, ho⟩ := hI.out.b4
        obtain ⟨a4, cap4, rfl, _, _, _⟩ := ho.els
        have c4 : wr.cell? ⟨cl, 0, none⟩ = some (.slice a4 st1.2.length cap4) := hv.cell 0
        have HO4 := Lib.hid ho
        clear hkd hR2 hv ho hRR
        go_wp2_with fail
        go_ret2
        refine ⟨⟨_, rfl, HO4.out.mono HKB.out.2⟩, hI.out.sw.tb, (HM4.out.mono (S' := (· = tM)) fun _ _ e => e.elim).trans2 hM.out fun i e => ?_⟩
        have h1 := HKB.out
        omega
  · have e1 : nextA n mo ea L now x may seed T = (T, [], 1) := by unfold nextA; rw [if_neg hr]
    rw [e1]
    have hr' : rightA n now x = false := by simpa using hr
    rw [hr'] at HRI
    have HRIa := Lib.hid (HRI.out wa ma)
    have HTB := Lib.hid (h.tb.new ma)
    have HMA := Lib.hid ma
    clear h hT hs hok hkn hr hr' e1 hn hmo hob hpm hlow he hm hmv bd za ma HRI hslt
    go_enter Tryz.func13, Tryz.ntmps13
    go_wp2_with fail
    go_step3
    go_upto_region 1 with fail
    rw [← hwa]
    clear hwa
    go_wp2_with fail
    refine HRIa.out.mono ?_; rintro e w1 ⟨rfl, m1⟩
    have HTB1 := Lib.hid (HTB.out.new m1)
    have HM1 := Lib.hid (HMA.out.trans m1)
    clear m1
    go_wp2_with fail
    rw [Exit.noGoto_ret]
    go_ret2
    exact ⟨⟨_, rfl, World.ownsRow_nil _ _ _ _⟩, HTB1.out, HM1.out.mono fun _ _ e => e.elim⟩
end Go.Proofs.YtjmfhcliggjdgaaGreatDoor

/- The reference of conn: New, out, may, right, Gone, Over, Late, Fall; no condition. -/
namespace Go.Proofs.YtjmfhcliggjdgaaGreatDoor
open Go Go.RowKit

theorem RW.at {w : World} {r b base t tb n : Nat} {pm mo ea pa : Int} {ks : List (Int × Rp)} {T : LT} (h : RW w r b base t tb n pm mo ea pa ks T) : w.cell? ⟨r, 0, none⟩ = some (.pointer (some ⟨b, 0, none⟩)) ∧ w.cell? ⟨r, 1, none⟩ = some (.pointer (some ⟨t, 0, none⟩)) := ⟨h.blk.cell 0, h.blk.cell 1⟩
set_option maxRecDepth 100000 in
set_option maxHeartbeats 1000000 in
theorem refNew18 (n : Nat) (pm mo ea pa : Int) (w : World) (hb : BoardOk n pm) (hf : Fl.NewOk mo ea pa) :
    Calls Tryz.prog 9 #[.int .i64 n, .int .i64 pm, .int .i64 mo, .int .i64 ea, .int .i64 pa] w fun e w' => ∃ r b base t tb : Nat, e = .returned (.tuple #[.pointer (some ⟨r, 0, none⟩), .int .i64 0]) ∧ RW w' r b base t tb n pm mo ea pa [] [] ∧ Mod (fun _ => False) w w' ∧ ∀ i, RWb w' r b t [] i → w.heap.size ≤ i := by
  have HB := Lib.hid hb
  have HF := Lib.hid hf
  clear hb hf
  go_enter Tryz.func9, Tryz.ntmps9
  go_wp2_with fail
  refine (refRNew n pm _ HB.out).mono ?_; rintro e w1 ⟨rfl, h1, m1, z1⟩
  obtain ⟨b, hb⟩ : ∃ b, b = w.heap.size := ⟨_, rfl⟩
  rw [← hb] at h1 ⊢
  have B1 := Lib.hid h1
  have M1 := Lib.hid m1
  have Z1 := Lib.hid z1
  have HBB := Lib.hid hb
  clear h1 m1 z1 hb
  go_wp2_with fail
  refine (Fl.refNew mo ea pa _ HF.out).mono ?_; rintro e w2 ⟨rfl, h2, m2, z2⟩
  obtain ⟨t, ht⟩ : ∃ b, b = w1.heap.size := ⟨_, rfl⟩
  rw [← ht] at h2 ⊢
  have T2 := Lib.hid h2
  have M2 := Lib.hid m2
  have Z2 := Lib.hid z2
  have HTT := Lib.hid ht
  clear h2 m2 z2 ht
  go_wp2_with fail
  go_ret2
  have ma := (Mod.refl (fun _ => False) w2).alloc (.cells #[.pointer (some ⟨b, 0, none⟩), .pointer (some ⟨t, 0, none⟩)] 53)
  have r1 := B1.out.modB (M2.out.trans ma) fun _ _ h => h
  have r2 := T2.out.modB ma fun _ _ h => h
  have z1 := Z1.out
  have z2 := Z2.out
  have hb := HBB.out
  have ht := HTT.out
  have za : (w2.alloc (.cells #[.pointer (some ⟨b, 0, none⟩), .pointer (some ⟨t, 0, none⟩)] 53)).heap.size = w2.heap.size + 1 := by simp
  have k1 : ∀ i, RDb (w2.alloc (.cells #[.pointer (some ⟨b, 0, none⟩), .pointer (some ⟨t, 0, none⟩)] 53)) b [] i → w.heap.size ≤ i ∧ i < w1.heap.size := fun i hi => by
    have h1 := B1.out.low (r1.2 i hi)
    have h2 : b ≤ i := B1.out.ge (r1.2 i hi)
    omega
  have k2 : ∀ i, Fl.RTb (w2.alloc (.cells #[.pointer (some ⟨b, 0, none⟩), .pointer (some ⟨t, 0, none⟩)] 53)) t i → w1.heap.size ≤ i ∧ i < w2.heap.size := fun i hi => by
    have := T2.out.low (r2.2 i hi)
    omega
  refine ⟨w2.heap.size, b, _, t, _, rfl, ⟨?_, r1.1, r2.1, ⟨fun e => by have := k1 _ e; omega, fun e => by have := k2 _ e; omega⟩, fun i hi hj => by have := k1 _ hi; have := k2 _ hj; omega, by omega⟩, (M1.out.trans M2.out).trans ma, fun i hi => ?_⟩
  · have := Blk.new w2 #[.pointer (some ⟨b, 0, none⟩), .pointer (some ⟨t, 0, none⟩)] 53
    simpa using this
  · rcases hi with e | e | e
    · omega
    · exact (k1 i e).1
    · have := k2 i e; omega
set_option maxRecDepth 100000 in
set_option maxHeartbeats 1000000 in
theorem refNew18Bad (n pm mo ea pa : Int) (w : World) (h : ¬ BoardOk n pm ∨ ¬ Fl.NewOk mo ea pa) :
    Calls Tryz.prog 9 #[.int .i64 n, .int .i64 pm, .int .i64 mo, .int .i64 ea, .int .i64 pa] w fun e w' => e = .returned (.tuple #[.pointer none, .int .i64 1]) ∧ Mod (fun _ => False) w w' := by
  by_cases hb : BoardOk n pm
  · have hf := h.resolve_left (fun e => e hb)
    obtain ⟨n, rfl⟩ : ∃ k : Nat, n = (k : Int) := ⟨n.toNat, by unfold BoardOk at hb; omega⟩
    have HB := Lib.hid hb
    have HF := Lib.hid hf
    clear hb hf h
    go_enter Tryz.func9, Tryz.ntmps9
    go_wp2_with fail
    refine (refRNew n pm _ HB.out).mono ?_; rintro e w1 ⟨rfl, h1, m1, z1⟩
    have M1 := Lib.hid m1
    clear h1 m1 z1
    go_wp2_with fail
    refine (Fl.refNewBad mo ea pa _ HF.out).mono ?_; rintro e w2 ⟨rfl, rfl⟩
    go_wp2_with fail
    go_ret2
    exact ⟨rfl, M1.out⟩
  · have HB := Lib.hid hb
    clear hb h
    go_enter Tryz.func9, Tryz.ntmps9
    go_wp2_with fail
    refine (refRNewBad n pm _ HB.out).mono ?_; rintro e w1 ⟨rfl, rfl⟩
    go_wp2_with fail
    go_ret2
    exact ⟨rfl, Mod.refl _ _⟩

/-- What is handed back: a new set. -/
def OutR (n : Nat) (F : Nat → Bool) (w : World) (e : Ending) (w' : World) : Prop := ∃ z zg : Nat, e = .returned (.pointer (some ⟨z, 0, none⟩)) ∧ RSet w' z zg n F ∧ Mod (fun _ => False) w w' ∧ w.heap.size ≤ z ∧ w.heap.size ≤ zg
set_option maxRecDepth 100000 in
set_option maxHeartbeats 1000000 in
theorem refOut18 (y yg : Nat) (f : Nat → Bool) (r b base t tb n : Nat) (pm mo ea pa : Int) (ks : List (Int × Rp)) (T : LT) (w : World) (h : RW w r b base t tb n pm mo ea pa ks T) (hy : RSet w y yg n f) (hf : ∀ i, n ≤ i → f i = false) (hn : 1 ≤ n ∧ n ≤ 1024) (hkn : ∀ q ∈ T, 0 ≤ q.1 ∧ q.1 < (n : Int)) (hlen : T.length ≤ 256) :
    Calls Tryz.prog 68 #[.pointer (some ⟨r, 0, none⟩), .pointer (some ⟨y, 0, none⟩)] w (OutR n (outF n f T) w) := by
  obtain ⟨c, d0, hsl⟩ := rset_sl hy
  have c1 := h.at.2
  obtain ⟨a, cap, _, _, _, c3, _, hel, _, _⟩ := h.rt.at
  have HE : Hid (Els w a 3 T.length (Fl.rqL T)) := hel.out
  have HSL := Lib.hid hsl
  have HKN := Lib.hid hkn
  have HN := Lib.hid hn
  have HOF : Hid (outF n f ([] : LT) = f) := by
    show _ = _
    funext i
    exact outF_nil n f i hf
  have ma := (Mod.refl (fun _ => False) w).alloc (.cells #[] 4)
  have d0' := ma.cell d0 (fun h => h)
  have HC1 := Lib.hid c1
  have HC3 := Lib.hid c3
  have HRL : Hid (r < w.heap.size ∧ t < w.heap.size) := ⟨h.blk.lt, h.rt.blt⟩
  clear h hy hf hn hkn hel hsl ma c1 c3
  go_enter Tryz.func68, Tryz.ntmps68
  go_wp2_with (at_builtin; refine appS (base := w.heap.size) rfl (.tmp 7) (.tmp 11) TBl 4 1 rfl Tryz.underlying95 infoBool rfl (by decide) _ _ _ _ n (booL n f) (by simp) (owns_empty _ _ _ _ (Nat.le_refl _)) rfl rfl (HSL.out.mod ((Mod.refl (fun _ => False) w).alloc _) (fun _ _ _ _ h => h)) (booL_one _ _) (by decide) (by have := HN.out; omega) ?_; intro v1 w4 o1 n1; rw [Nat.zero_add, List.nil_append] at o1; obtain ⟨g, cp, rfl⟩ := own_some o1 HN.out.1; have O2 := Lib.hid o1; have N1 := Lib.hid ((((Mod.refl (fun i => w.heap.size ≤ i) w).alloc (.cells #[] 4))).trans n1); clear o1 n1)
  have M4 := Lib.hid (N1.out.mono (S' := fun _ => False) (fun i hi (e : w.heap.size ≤ i) => by omega))
  have HS5 := Lib.hid (boo_rset (O2.out.alloc (.cells #[.slice (some ⟨g, 0, none⟩) n cp] TS2)) (Blk.new w4 _ _) (by have := HN.out; omega))
  have HG : Hid (w.heap.size ≤ g ∧ w.heap.size ≤ w4.heap.size) := ⟨(O2.out.blk _ _ _ rfl).1, M4.out.size⟩
  have M5 := Lib.hid (M4.out.alloc (.cells #[.slice (some ⟨g, 0, none⟩) n cp] TS2))
  clear N1 O2 M4 d0 d0'
  obtain ⟨z, hz⟩ : ∃ z, z = w4.heap.size := ⟨_, rfl⟩
  obtain ⟨w5, hw5⟩ : ∃ w5, w5 = w4.alloc (.cells #[.slice (some ⟨g, 0, none⟩) n cp] TS2) := ⟨_, rfl⟩
  rw [← hz, ← hw5] at HS5 ⊢
  rw [← hz] at HG
  rw [← hw5] at M5
  clear hz hw5
  go_loopw [6] (fun i wr => ∃ k : Nat, i = .int .i64 k ∧ k ≤ T.length ∧ Hid (RSet wr z g n (outF n f (T.take k))) ∧ Mod (· = g) w5 wr) (fun i _ => T.length - (intOf i).toNat)
  case atStart => exact ⟨0, rfl, Nat.zero_le _, by show RSet _ _ _ _ (outF n f []); rw [HOF.out]; exact HS5.out, Mod.refl _ _⟩
  case round =>
    obtain ⟨k, rfl, hk, hB, hm⟩ := hrel
    have MR := Lib.hid (M5.out.new hm (fun i e => by rw [e]; exact HG.out.1))
    have c1 := MR.out.cell HC1.out (fun h => h)
    have c3 := MR.out.cell HC3.out (fun h => h)
    have HMR := Lib.hid hm
    clear hm
    by_cases hlt' : (k : Int) < T.length
    · obtain ⟨⟨x, q⟩, hkr⟩ : ∃ q, T[k]? = some q := ⟨_, List.getElem?_eq_getElem (by omega)⟩
      obtain ⟨X, rfl, p0, p1, p2⟩ := Fl.rqEl (HE.out.new MR.out) (Nat.le_refl _) hkr
      have hxr := HKN.out _ (List.mem_of_getElem? hkr)
      obtain ⟨j, rfl⟩ : ∃ j : Nat, x = (j : Int) := ⟨x.toNat, by have := hxr.1; simp only at this; omega⟩
      have hjn : j < n := by have := hxr.2; simp only at this; omega
      have HST : Hid (outF n f (T.take (k + 1)) = fil (outF n f (T.take k)) j (j + 1) true) := by
        show _ = _
        rw [List.take_add_one, hkr]
        exact outF_snoc n f _ j q hjn
      have hk1 : T.length - (k + 1) < T.length - k := by omega
      clear hkr hxr p0 p2
      go_wp2_with fail
      refine (refPut z g n _ j true _ hB.out hjn).mono ?_; rintro e w6 ⟨rfl, h6, m6⟩
      rw [← HST.out] at h6
      have H6 := Lib.hid h6
      have M6 := Lib.hid (HMR.out.trans m6)
      clear h6 m6 p1 c1 c3
      go_wp2_with fail
      go_roundw
      case rel => exact ⟨k + 1, by go_num, by omega, H6.out, M6.out⟩
      case measure => simp [intOf]; omega
    · have hkT : T.take k = T := List.take_of_length_le (by omega)
      rw [hkT] at hB
      clear hkT
      go_wp2_with fail
      go_ret
      exact ⟨z, g, rfl, hB.out, MR.out, HG.out.2, HG.out.1⟩

set_option maxRecDepth 100000 in
set_option maxHeartbeats 1000000 in
theorem refMay (v : Value) (n : Nat) (xs : List Int) (p : Int) (w : World) (h : Sl w v 1 n (intL xs)) (hn : n ≤ 9007199254740992) :
    Calls Tryz.prog 66 #[v, .int .i64 p] w fun e w' => e = .returned (.bool (decide (p ∈ xs))) ∧ w = w' := by
  obtain ⟨hl, a, c, rfl, hc⟩ := sl_ints h
  have HC := Lib.hid hc
  have HL := Lib.hid hl
  clear h hc hl
  go_enter Tryz.func66, Tryz.ntmps66
  go_wp2_with fail
  go_loopw [5] (fun i wr => ∃ k : Nat, i = .int .i64 k ∧ k ≤ n ∧ Hid (∀ j z, j < k → xs[j]? = some z → z ≠ p) ∧ wr = w) (fun i _ => n - (intOf i).toNat)
  case atStart => exact ⟨0, rfl, Nat.zero_le _, fun j z h => by omega, rfl⟩
  case round =>
    obtain ⟨k, rfl, hk, hno, rfl⟩ := hrel
    by_cases hlt : (k : Int) < n
    · obtain ⟨z, hz⟩ : ∃ z, xs[k]? = some z := ⟨_, List.getElem?_eq_getElem (by have := HL.out; omega)⟩
      obtain ⟨x, rfl, cz⟩ := HC.out k z hz
      have HZ := Lib.hid hz
      have hk1 : n - (k + 1) < n - k := by omega
      clear hz
      by_cases e : z = p
      · subst e
        go_wp2_with fail
        go_ret
        exact ⟨by rw [decide_eq_true (List.mem_of_getElem? HZ.out)]; rfl, rfl⟩
      · have e' : (z == p) = false := by simpa using e
        go_wp2_with fail
        go_roundw
        case rel =>
          refine ⟨k + 1, by go_num, by omega, fun j y hj hy => ?_, by first | trivial | rfl⟩
          by_cases hjk : j = k
          · subst hjk
            rw [HZ.out] at hy
            cases hy
            exact e
          · exact hno.out j y (by omega) hy
        case measure => simp [intOf]; omega
    · have hmem : ¬ p ∈ xs := fun hm => by
        obtain ⟨j, hj⟩ := List.getElem?_of_mem hm
        have := (List.getElem?_eq_some_iff.1 hj).1
        have := HL.out
        exact hno.out j p (by omega) hj rfl
      have HM : Hid (decide (p ∈ xs) = false) := by show _ = _; simpa using hmem
      clear hmem
      go_wp2_with fail
      go_ret
      exact ⟨by rw [HM.out]; rfl, rfl⟩

set_option maxRecDepth 100000 in
set_option maxHeartbeats 1000000 in
theorem refRight (now : Int) (so : Option Nat) (x : Option (Nat × (Nat → Bool))) (r b base t tb n : Nat) (pm mo ea pa : Int) (ks : List (Int × Rp)) (T : LT) (w : World) (h : RW w r b base t tb n pm mo ea pa ks T) {lo : Nat} (hs : SoR lo w so x) :
    Calls Tryz.prog 65 #[.pointer (some ⟨r, 0, none⟩), .int .i64 now, .pointer (so.map fun s => ⟨s, 0, none⟩)] w fun e w' => e = .returned (.bool (rightA n now x)) ∧ Mod (fun _ => False) w w' := by
  have c0 := h.at.1
  obtain ⟨_, _, b0, _⟩ := h.rd.at
  clear h
  by_cases hq : 0 ≤ now ∧ now ≤ 1099511627776
  · have hm : (decide (0 ≤ now) && decide (now ≤ 1099511627776)) = true := by simp [hq]
    rcases hs with ⟨rfl, rfl⟩ | ⟨y, yg, m, f, rfl, rfl, hb, _, _⟩
    · have e0 : rightA n now none = false := by unfold rightA; simp
      rw [e0]
      clear e0 hq c0 b0
      go_enter Tryz.func65, Tryz.ntmps65
      go_wp2_with fail
      refine (Fl.refMoment _ _).mono ?_; rw [hm]; rintro e w1 ⟨rfl, rfl⟩
      clear hm
      go_wp2_with fail
      go_quiet (fail)
      go_wp2_with fail
      go_ret
      exact ⟨rfl, (Mod.refl _ w).drewN _⟩
    · have e0 : rightA n now (some (m, f)) = decide ((m : Int) = n) := by
        unfold rightA
        rw [decide_eq_true hq, Bool.true_and]
        dsimp only
        by_cases e : m = n
        · rw [decide_eq_true e, decide_eq_true (by omega)]
        · rw [decide_eq_false e, decide_eq_false (by omega)]
      rw [e0]
      obtain ⟨c, d0, _⟩ := rset_sl hb
      clear e0 hq hb
      go_enter Tryz.func65, Tryz.ntmps65
      go_wp2_with fail
      refine (Fl.refMoment _ _).mono ?_; rw [hm]; rintro e w1 ⟨rfl, rfl⟩
      clear hm
      go_wp2_with fail
      go_quiet (fail)
      go_wp2_with fail
      go_ret
      exact ⟨by simp [BEq.beq], (Mod.refl _ w).drewN _⟩
  · have hm : (decide (0 ≤ now) && decide (now ≤ 1099511627776)) = false := by
      rw [Bool.and_eq_false_iff, decide_eq_false_iff_not, decide_eq_false_iff_not]; omega
    have e0 : rightA n now x = false := by unfold rightA; rw [decide_eq_false hq]; rfl
    rw [e0]
    clear e0 hq c0 b0 hs
    go_enter Tryz.func65, Tryz.ntmps65
    go_wp2_with fail
    refine (Fl.refMoment _ _).mono ?_; rw [hm]; rintro e w1 ⟨rfl, rfl⟩
    clear hm
    go_wp2_with fail
    go_quiet (fail)
    go_wp2_with fail
    go_ret
    exact ⟨rfl, (Mod.refl _ w).drewN _⟩

set_option maxRecDepth 100000 in
set_option maxHeartbeats 1000000 in
theorem refGone18 (peer : Int) (r b base t tb n : Nat) (pm mo ea pa : Int) (ks : List (Int × Rp)) (L : LB) (T : LT) (w : World) (h : RW w r b base t tb n pm mo ea pa ks T) (he : mapV Rp.f ks = L) (hr : Rising ks) (hl : ks.length ≤ 64) (hlt : T.length ≤ 256) :
    Calls Tryz.prog 34 #[.pointer (some ⟨r, 0, none⟩), .int .i64 peer] w fun e w' => e = .returned (.int .i64 (goneA L peer).1) ∧ StW r b base t tb n pm mo ea pa ks (goneA L peer).2 (goneT L peer T) w w' := by
  have c0 := h.at.1
  have HC := Lib.hid (refGone peer b base n pm ks L w h.rd he hr hl h.hb.1)
  have H := Lib.hid h
  clear h he hr
  obtain ⟨A, hA⟩ : ∃ A, A = goneA L peer := ⟨_, rfl⟩
  rw [← hA] at HC ⊢
  have HA := Lib.hid hA
  clear hA
  obtain ⟨e0, L1⟩ := A
  go_enter Tryz.func34, Tryz.ntmps34
  go_wp2_with fail
  refine HC.out.mono ?_; rintro e w1 ⟨rfl, h1⟩
  have S1 := StW.board H.out h1
  clear h1 c0
  obtain ⟨k1, h1, f1, m1, n1⟩ := S1
  have c1 := h1.at.2
  have H1 := Lib.hid h1
  have F1 := Lib.hid f1
  have M1 := Lib.hid m1
  have N1 := Lib.hid n1
  clear h1 f1 m1 n1
  by_cases hp : (lkL L peer).isSome = true
  · have hA := HA.out
    unfold goneA at hA
    rw [if_pos hp] at hA
    cases hA
    have hgT : goneT L peer T = T.filter (fun x => !(x.2.p == peer)) := by unfold goneT; rw [if_pos hp]
    have HGT := Lib.hid hgT
    clear hgT
    have HD := Lib.hid (Fl.refDrop peer t tb mo ea pa T w1 H1.out.rt (by omega))
    clear hp HC
    go_wp2_with fail
    refine HD.out.mono ?_; rintro e w2 ⟨⟨v, rfl, _⟩, h2, m2⟩
    have S2 := Lib.hid (StW.trans M1.out N1.out (StW.tmod H1.out F1.out (Fl.StepT.fresh H1.out.rt H1.out.hb.2 h2 m2)))
    clear h2 m2
    go_wp2_with fail
    go_ret
    exact ⟨rfl, by rw [HGT.out]; exact S2.out⟩
  · have hA := HA.out
    unfold goneA at hA
    rw [if_neg hp] at hA
    cases hA
    have hgT : goneT L peer T = T := by unfold goneT; rw [if_neg hp]
    have HGT := Lib.hid hgT
    clear hgT hp HC
    go_wp2_with fail
    go_ret
    exact ⟨rfl, _, by rw [HGT.out]; exact H1.out, F1.out, M1.out, N1.out⟩

set_option maxRecDepth 100000 in
set_option maxHeartbeats 1000000 in
theorem refOver18 (peer piece : Int) (r b base t tb n : Nat) (pm mo ea pa : Int) (ks : List (Int × Rp)) (T : LT) (w : World) (h : RW w r b base t tb n pm mo ea pa ks T) (hr : Rising T) (hlt : T.length ≤ 256) :
    Calls Tryz.prog 38 #[.pointer (some ⟨r, 0, none⟩), .int .i64 peer, .int .i64 piece] w fun e w' => e = .returned (.bool (overA T peer piece)) ∧ Fl.StepT t tb mo ea pa (overT T peer piece) w w' := by
  have c1 := h.at.2
  have HO := Lib.hid (Fl.refOf piece t tb mo ea pa T w h.rt (by omega) hr)
  have HRT := Lib.hid h.rt
  have HRI := Lib.hid hr
  have HBB := Lib.hid h.hb.2
  clear h hr
  cases hl : lkL T piece with
  | none =>
    have e1 : overA T peer piece = false := by unfold overA; rw [hl]
    have e2 : overT T peer piece = T := by unfold overT; rw [e1]; rfl
    rw [e1, e2]
    have hrr : Fl.rqAt T piece = Fl.rq0 := by unfold Fl.rqAt; rw [hl]; rfl
    rw [hrr, hl] at HO
    clear e1 e2 hrr hl
    go_enter Tryz.func38, Tryz.ntmps38
    go_wp2_with fail
    refine HO.out.mono ?_; rintro e w1 ⟨rfl, m1⟩
    have M1 := Lib.hid m1
    clear m1 HO
    go_wp2_with fail
    go_ret
    exact ⟨rfl, Fl.StepT.same HRT.out (M1.out.alloc _)⟩
  | some q =>
    have e1 : overA T peer piece = decide (q.p = peer) := by unfold overA; rw [hl]
    have hrr : Fl.rqAt T piece = Fl.rqv piece q := by unfold Fl.rqAt; rw [hl]; rfl
    rw [hrr, hl] at HO
    unfold Fl.rqv at HO
    by_cases hp : q.p = peer
    · have e2 : overT T peer piece = delL T piece := by unfold overT; rw [e1, decide_eq_true hp]; rfl
      rw [e1, e2, decide_eq_true hp]
      subst hp
      clear e1 e2 hrr hl
      go_enter Tryz.func38, Tryz.ntmps38
      go_wp2_with fail
      refine HO.out.mono ?_; rintro e w1 ⟨rfl, m1⟩
      have c1' := m1.cell c1 (fun h => h)
      have ma := (Mod.refl (fun _ => False) w1).alloc (.cells #[.int .i64 q.p, .int .i64 piece, .int .i64 q.t] 42)
      have HX := Lib.hid (HRT.out.modB (m1.trans ma) fun _ _ h => h)
      have HD := Lib.hid (Fl.refDone piece t tb mo ea pa T _ HX.out.1 (by omega) HRI.out (Nat.le_trans HBB.out (m1.trans ma).size))
      have M1 := Lib.hid (m1.trans ma)
      have hrl : r < w1.heap.size := Nat.lt_of_lt_of_le (World.block_lt_of_cell? w _ c1) m1.size
      clear m1 ma HO c1
      go_wp2_with fail
      refine HD.out.mono ?_; rintro e w2 ⟨rfl, h2, m2, n2⟩
      obtain ⟨xa, xb, xc, hx⟩ := Fl.rqAt_agg T piece
      rw [hx]
      have S2 : Hid (Fl.StepT t tb mo ea pa (delL T piece) w w2) := ⟨h2, Mod.trans2 (M1.out.mono (S' := Fl.RTb w t) fun _ _ e => e.elim) m2 fun i e => .inl (HX.out.2 i e), fun i hi => (n2 i hi).elim (fun e => .inl (HX.out.2 i e)) fun e => .inr (by have := M1.out.size; omega)⟩
      clear h2 m2 n2 M1 HD
      go_wp2_with fail
      go_ret
      exact ⟨rfl, S2.out⟩
    · have e2 : overT T peer piece = T := by unfold overT; rw [e1, decide_eq_false hp]; rfl
      rw [e1, e2, decide_eq_false hp]
      have hne : (q.p == peer) = false := by simpa using hp
      clear e1 e2 hrr hl hp
      go_enter Tryz.func38, Tryz.ntmps38
      go_wp2_with fail
      refine HO.out.mono ?_; rintro e w1 ⟨rfl, m1⟩
      have M1 := Lib.hid m1
      clear m1 HO
      go_wp2_with fail
      go_ret
      exact ⟨rfl, Fl.StepT.same HRT.out (M1.out.alloc _)⟩
end Go.Proofs.YtjmfhcliggjdgaaGreatDoor

/- The reference of conn: Fall; no condition. -/
namespace Go.Proofs.YtjmfhcliggjdgaaGreatDoor
open Go Go.RowKit

theorem StepT.thenT {t tb : Nat} {mo ea pa : Int} {T1 T2 : LT} {w w1 w2 : World} (h : Fl.StepT t tb mo ea pa T1 w w1) (h2 : Fl.StepT t tb mo ea pa T2 w1 w2) : Fl.StepT t tb mo ea pa T2 w w2 :=
  ⟨h2.1, h.2.1.trans2 h2.2.1 h.2.2, fun i hi => (h2.2.2 i hi).elim (h.2.2 i) fun e => .inr (Nat.le_trans h.2.1.size e)⟩
theorem StepT.other {S : Nat → Prop} {t tb : Nat} {mo ea pa : Int} {T1 : LT} {w w1 w2 : World} (h : Fl.StepT t tb mo ea pa T1 w w1) (hm : Mod S w1 w2) (hS : ∀ i, S i → w.heap.size ≤ i) (hd : ∀ i, Fl.RTb w1 t i → ¬ S i) : Fl.StepT t tb mo ea pa T1 w w2 ∧ ∀ i, Fl.RTb w2 t i → Fl.RTb w1 t i := by
  have h1 := h.1.modB hm hd
  exact ⟨⟨h1.1, h.2.1.trans2 hm fun i e => .inr (hS i e), fun i hi => h.2.2 i (h1.2 i hi)⟩, h1.2⟩
/-- A list of one's own, apart from the table. -/
def FreeT (w : World) (t : Nat) (v : Value) : Prop := ∀ i, v.ownBlock = some i → ¬ Fl.RTb w t i
theorem FreeT.step {t tb : Nat} {mo ea pa : Int} {T2 : LT} {w w2 : World} {v : Value} {base : Nat} {e : TypeId} {K n : Nat} {xs : List Value} (h : FreeT w t v) (ho : w.ownsRow base e K v n xs) (h2 : Fl.StepT t tb mo ea pa T2 w w2) : FreeT w2 t v := fun i hi hj => by
  rcases h2.2.2 i hj with e | e
  · exact h i hi e
  · have := (ho.lt i hi).2; omega
theorem own_step {t tb : Nat} {mo ea pa : Int} {T2 : LT} {w w2 : World} {v : Value} {base : Nat} {e : TypeId} {K n : Nat} {xs : List Value} (h : FreeT w t v) (ho : w.ownsRow base e K v n xs) (h2 : Fl.StepT t tb mo ea pa T2 w w2) : w2.ownsRow base e K v n xs := owns_keep ho h2.2.1 h
theorem FreeT.app {t : Nat} {w w2 : World} {v v' : Value} {B : Nat} (h : FreeT w t v) (hb : ∀ i, Fl.RTb w2 t i → Fl.RTb w t i) (hB : ∀ i, Fl.RTb w t i → i < B) (hv : v'.ownBlock = v.ownBlock ∨ v'.ownBlock = some B) : FreeT w2 t v' := fun i hi hj => by
  have h1 := hb i hj
  rcases hv with e | e
  · rw [e] at hi; exact h i hi h1
  · rw [e] at hi; cases hi; have := hB _ h1; omega

set_option maxRecDepth 100000 in
set_option maxHeartbeats 4000000 in
theorem refFall18 (now : Int) (so : Option Nat) (x : Option (Nat × (Nat → Bool))) (r b base t tb n : Nat) (pm mo ea pa : Int) (ks : List (Int × Rp)) (T : LT) (w : World) (h : RW w r b base t tb n pm mo ea pa ks T) {lo : Nat} (hs : SoR lo w so x) (hso : ∀ m f, x = some (m, f) → ∀ i, m ≤ i → f i = false) (hok : Fl.Okk mo ea T) (hmo : mo ≤ 256) (hkn : ∀ q ∈ T, q.1 < (n : Int)) (hn : 1 ≤ n ∧ n ≤ 1024) :
    Calls Tryz.prog 36 #[.pointer (some ⟨r, 0, none⟩), .int .i64 now, .pointer (so.map fun s => ⟨s, 0, none⟩)] w fun e w' => RqE (fallA n mo ea now x T).2.1 (fallA n mo ea now x T).2.2 w e w' ∧ Fl.StepT t tb mo ea pa (fallA n mo ea now x T).1 w w' ∧ ∀ v er i, e = .returned (.tuple #[v, er]) → v.ownBlock = some i → ¬ Fl.RTb w' t i := by
  have HRI := Lib.hid (refRight now so x r b base t tb n pm mo ea pa ks T w h hs)
  by_cases hr : rightA n now x = true
  · obtain ⟨hq, f, rfl⟩ := rightA_some hr
    rw [hr] at HRI
    rw [fallA_some hq]
    rcases hs with ⟨_, e⟩ | ⟨y, yg, m, f', rfl, e, hy, _, _⟩
    · cases e
    cases e
    have hlen : T.length ≤ 256 := by have := hok.len; omega
    have HRW := Lib.hid h
    have HY := Lib.hid hy
    have HFO := Lib.hid (hso n f rfl)
    have HKN : Hid (∀ q ∈ T, 0 ≤ q.1 ∧ q.1 < (n : Int)) := fun q hq => ⟨(hok.rng q hq).1, hkn q hq⟩
    have HOK := Lib.hid hok
    obtain ⟨F, hF⟩ : ∃ F, F = outF n f T := ⟨_, rfl⟩
    rw [← hF]
    have HF := Lib.hid hF
    obtain ⟨R, hR⟩ : ∃ R, R = fallR mo ea now F n 0 T [] := ⟨_, rfl⟩
    rw [← hR]
    have HR := Lib.hid hR
    have HN := Lib.hid hn
    have HMO := Lib.hid hmo
    clear h hok hkn hy hr hq hF hR hn hmo hso
    dsimp only
    go_enter Tryz.func36, Tryz.ntmps36
    go_wp2_with fail
    refine HRI.out.mono ?_; rintro e w1 ⟨rfl, m1⟩
    have HRW1 := Lib.hid (HRW.out.new m1)
    have HO := Lib.hid (refOut18 y yg f r b base t tb n pm mo ea pa ks T w1 HRW1.out (HY.out.mod m1 (fun h => h) (fun h => h)) HFO.out HN.out HKN.out hlen)
    have M1 := Lib.hid m1
    clear m1 hlen
    go_wp2_with fail
    refine HO.out.mono ?_; rintro e w2 ⟨z, zg, rfl, h2, m2, l1, l2⟩
    rw [← HF.out] at h2
    have HRW2 := Lib.hid (HRW1.out.new m2)
    have Z2 := Lib.hid h2
    have M2 := Lib.hid (M1.out.trans m2)
    have L2 : Hid (∀ i, RWb w2 r b t ks i → i ≠ z ∧ i ≠ zg) := fun i hi => by
      have h1 := HRW1.out.modB m2 (fun _ _ h => h)
      have := HRW1.out.lt (h1.2 i hi)
      omega
    clear h2 m2 l1 l2 HO HRW1 M1
    go_wp2_with fail
    go_loopw [9, 11] (fun v i wr => ∃ (T1 l1 : LT) (k : Nat), i = .int .i64 k ∧ k ≤ n ∧ Hid (fallR mo ea now F (n - k) k T1 l1 = R) ∧ Hid (Fl.Okk mo ea T1) ∧ Hid (l1.length ≤ T1.length) ∧ Hid (Fl.StepT t tb mo ea pa T1 w2 wr) ∧ Hid (wr.ownsRow w2.heap.size Fl.TRq 3 v l1.length (Fl.rqL l1)) ∧ Hid (FreeT wr t v)) (fun _ i _ => n - (intOf i).toNat)
    case atStart => exact ⟨T, [], 0, rfl, Nat.zero_le _, HR.out.symm, HOK.out, Nat.zero_le _, Fl.StepT.same HRW2.out.rt (Mod.refl _ _), World.ownsRow_nil _ _ _ _, fun i hi => by cases hi⟩
    case round =>
      obtain ⟨T2, l2, k, rfl, hk, hRR, hok2, hll, hst, hown, hfr⟩ := hrel
      have hmo := HMO.out
      have hlen : T2.length ≤ 256 := by have := hok2.out.len; omega
      have hl2 : l2.length ≤ 256 := Nat.le_trans hll.out hlen
      have c1 := hst.out.2.1.cell HRW2.out.at.2 HRW2.out.s1.2
      have hZ := Z2.out.mod hst.out.2.1 (fun e => (L2.out z (.inr (.inr e))).1 rfl) (fun e => (L2.out zg (.inr (.inr e))).2 rfl)
      obtain ⟨cc, d0⟩ := hZ.s0
      have HZ := Lib.hid hZ
      clear hZ
      by_cases hkn : (k : Int) < n
      · have hkn2 : k < n := by omega
        have ek := (HZ.out.at hkn2).1
        have hkw : wrap64 ((k : Int) + 1) = ((k + 1 : Nat) : Int) := by unfold wrap64; have := HN.out; omega
        have HKW := Lib.hid hkw
        have HKN2 := Lib.hid hkn2
        by_cases hF : F k = true
        · have HRR := Lib.hid (show fallR mo ea now F (n - (k + 1)) (k + 1) T2 l2 = R by
            have := hRR.out
            rw [show n - k = (n - (k + 1)) + 1 by omega] at this
            have e : fallR mo ea now F (n - (k + 1) + 1) k T2 l2 = fallR mo ea now F (n - (k + 1)) (k + 1) T2 l2 := by
              show (if F k = true then _ else _) = _
              rw [if_pos hF]
            rw [← e]; exact this)
          rw [hF] at ek
          clear hF
          go_wp2_with fail
          go_roundw
          case rel => exact ⟨T2, l2, k + 1, by rw [hkw], by omega, HRR.out, hok2.out, hll.out, hst.out, hown.out, hfr.out⟩
          case measure =>
            rw [hkw]
            simp [intOf]
            omega
        · have hF' : F k = false := by simpa using hF
          have hRR2 := hRR.out
          rw [fallR_step hkn2 hF'] at hRR2
          rw [hF'] at ek
          clear hF hF'
          have hA := Fl.refAsk 0 k now t tb mo ea pa T2 wr hst.out.1 (by omega) hok2.out.rising (by have := HRW2.out.hb.2; have := hst.out.2.1.size; omega)
          by_cases he : Fl.askE mo ea T2 0 k now = 0
          · rw [if_pos he] at hRR2
            have hK : Fl.askK mo ea T2 0 k now = putL T2 k ⟨0, now⟩ := by unfold Fl.askK; rw [if_pos he]
            rw [he, hK] at hA
            have HA := Lib.hid hA
            have HOK2 := Lib.hid (hok2.out.put0 he)
            have HRR := Lib.hid hRR2
            have hlk : lkL T2 (k : Int) = none := by
              cases hl : lkL T2 (k : Int) with
              | none => rfl
              | some o =>
                exfalso
                unfold Fl.askE at he
                rw [hl] at he
                split at he
                · cases he
                · simp at he
            have HLE : Hid ((l2 ++ [((k : Int), (⟨0, now⟩ : Fl.Rq))]).length ≤ (putL T2 (k : Int) (⟨0, now⟩ : Fl.Rq)).length) := by
              show _ ≤ _
              unfold putL
              rw [del_none hlk, length_insS, List.length_append]
              have := hll.out
              simp only [List.length_cons, List.length_nil]
              omega
            clear hA hK he hok2 hRR hRR2 hlk hll
            go_wp2_with fail
            refine HA.out.mono ?_; rintro e w3 ⟨rfl, s3⟩
            have OWN3 := Lib.hid (own_step hfr.out hown.out s3)
            have FR3 := Lib.hid (hfr.out.step hown.out s3)
            have S3 := Lib.hid (StepT.thenT hst.out s3)
            clear s3 hown hfr hst HA HZ d0 ek c1
            go_wp2_with (at_builtin; refine app1 (base := w2.heap.size) rfl (.tmp 48) (.tmp 52) 39 Fl.TRq 3 rfl Tryz.underlying39 Fl.infoRq rfl (by decide) _ _ _ _ 1 [.int .i64 0, .int .i64 k, .int .i64 now] (by have := S3.out.2.1.size; simp; omega) (OWN3.out.alloc _) rfl rfl (sl_new w3 _ _) (by simp [Value.oneCell']) (by decide) (by omega) ?_; intro v' w4 g1 g2 g3
                         have G1 := Lib.hid g1
                         have G2 := Lib.hid (((Mod.refl _ w3).alloc (.cells #[.int .i64 0, .int .i64 k, .int .i64 now] Fl.TRq)).trans g2)
                         have G3 := Lib.hid g3
                         clear g1 g2 g3)
            have hso := StepT.other S3.out G2.out (own_ge OWN3.out) (fun i hi e => FR3.out i e hi)
            have HST4 := Lib.hid hso.1
            have HFR4 := Lib.hid (FR3.out.app hso.2 (fun i hi => by have := (S3.out.1.low hi).1; simp; omega) G3.out)
            rw [← rqL_put l2 (k : Int) ⟨0, now⟩] at G1
            clear hso
            rw [HKW.out]
            have hk2 := HKN2.out
            refine ⟨⟨_, _, k + 1, rfl, by omega, HRR.out, HOK2.out, HLE.out, HST4.out, by rw [List.length_append]; exact G1.out, HFR4.out⟩, ?_⟩
            simp [intOf]
            omega
          · rw [if_neg he] at hRR2
            have hK : Fl.askK mo ea T2 0 k now = T2 := by unfold Fl.askK; rw [if_neg he]
            rw [hK] at hA
            obtain ⟨E, hE⟩ : ∃ E, E = Fl.askE mo ea T2 0 k now := ⟨_, rfl⟩
            rw [← hE] at hA he
            have he' : (E == 0) = false := by simpa using he
            have HA := Lib.hid hA
            have HRR := Lib.hid hRR2
            clear hA hK he hok2 hRR hRR2 hE hll
            go_wp2_with fail
            refine HA.out.mono ?_; rintro e w3 ⟨rfl, s3⟩
            have OWN3 := Lib.hid (own_step hfr.out hown.out s3)
            have FR3 := Lib.hid (hfr.out.step hown.out s3)
            have S3 := Lib.hid (StepT.thenT (Fl.StepT.same HRW.out.rt M2.out) (StepT.thenT hst.out s3))
            clear s3 hown hfr hst HA HZ d0 ek c1
            go_wp2_with fail
            go_ret2
            have e := HRR.out
            rw [← e]
            exact ⟨⟨_, rfl, OWN3.out.mono M2.out.size⟩, S3.out, fun v er i e hi => by cases e; exact FR3.out i hi⟩
      · have hRR2 := hRR.out
        rw [show n - k = 0 by omega] at hRR2
        have HRR := Lib.hid (show (T2, l2) = R from hRR2)
        have S3 := Lib.hid (StepT.thenT (Fl.StepT.same HRW.out.rt M2.out) hst.out)
        clear hRR hRR2
        go_wp2_with fail
        go_ret2
        have e := HRR.out
        rw [← e]
        exact ⟨⟨_, rfl, hown.out.mono M2.out.size⟩, S3.out, fun v er i e hi => by cases e; exact hfr.out i hi⟩
  · have e1 : fallA n mo ea now x T = (T, [], 1) := by unfold fallA; rw [if_neg hr]
    rw [e1]
    have hr' : rightA n now x = false := by simpa using hr
    rw [hr'] at HRI
    have HRT := Lib.hid h.rt
    clear h hs hok hkn hr hr' e1 hn hmo hso
    go_enter Tryz.func36, Tryz.ntmps36
    go_wp2_with fail
    refine HRI.out.mono ?_; rintro e w1 ⟨rfl, m1⟩
    have S1 := Lib.hid (Fl.StepT.same HRT.out m1)
    clear m1
    go_wp2_with fail
    go_ret2
    exact ⟨⟨_, rfl, World.ownsRow_nil _ _ _ _⟩, S1.out, fun v er i e hi => by cases e; cases hi⟩
end Go.Proofs.YtjmfhcliggjdgaaGreatDoor

/- The reference of conn: Next; no condition. -/
namespace Go.Proofs.YtjmfhcliggjdgaaGreatDoor
open Go Go.RowKit

theorem RW.tmod {w w' : World} {r b base t tb n : Nat} {pm mo ea pa : Int} {ks : List (Int × Rp)} {T T1 : LT} (h : RW w r b base t tb n pm mo ea pa ks T) (hs : Fl.StepT t tb mo ea pa T1 w w') : RW w' r b base t tb n pm mo ea pa ks T1 := by
  obtain ⟨ht, hm, hn⟩ := hs
  have h1 := h.rd.modB hm h.s2
  have hz := hm.size
  have hb := h.hb
  exact ⟨h.blk.mod hm h.s1.2, h1.1, ht, ⟨fun e => h.s1.1 (h1.2 _ e), fun e => (hn _ e).elim h.s1.2 fun e => by have := h.blk.lt; omega⟩, fun i hi hj => (hn i hj).elim (h.s2 i (h1.2 i hi)) fun e => by have := h.rd.low (h1.2 i hi); omega, by omega, by omega⟩
/-- What holds of the table and the list while Next asks. -/
structure InvS (n : Nat) (mo ea : Int) (st : LT × LT) : Prop where
  ok : Fl.Okk mo ea st.1
  kn : ∀ q ∈ st.1, q.1 < (n : Int)
  ll : st.2.length ≤ st.1.length
theorem InvS.ask {n : Nat} {mo ea now p : Int} {T l : LT} (h : InvS n mo ea (T, l)) {k : Nat} (hk : k < n) (he : Fl.askE mo ea T p k now = 0) : InvS n mo ea (putL T (k : Int) ⟨p, now⟩, l ++ [((k : Int), ⟨p, now⟩)]) := by
  have hlk : lkL T (k : Int) = none := by
    cases hl : lkL T (k : Int) with
    | none => rfl
    | some o =>
      exfalso
      unfold Fl.askE at he
      rw [hl] at he
      split at he
      · cases he
      · simp at he
  refine ⟨h.ok.put0 he, fun q hq => ?_, ?_⟩
  · rcases mem_putO hq with e | e
    · rw [e]; dsimp only; omega
    · exact h.kn q e
  · dsimp only
    unfold putL
    rw [del_none hlk, length_insS, List.length_append]
    have := h.ll
    simp only [List.length_cons, List.length_nil]
    dsimp only at this
    omega
def lenV : Value → Nat
  | .slice _ n _ => n
  | _ => 0
def measB : Value → Value → Nat
  | .bool true, v => 601 - lenV v
  | _, _ => 0
theorem RSet.ex {w w' : World} {b g n : Nat} {f : Nat → Bool} (h : RSet w b g n f) (hx : Ex w w') : RSet w' b g n f := by
  obtain ⟨c, hc⟩ := h.head
  obtain ⟨cs, hcs, hk⟩ := h.list
  exact ⟨⟨c, (hx.2 b hc.lt).trans hc⟩, h.ne, ⟨cs, (hx.2 g hcs.lt).trans hcs, hk⟩, h.small⟩

set_option maxRecDepth 100000 in
set_option maxHeartbeats 4000000 in
theorem refNext18 (now seed : Int) (so : Option Nat) (x : Option (Nat × (Nat → Bool))) (mv : Value) (ml : Nat) (may : List Int) (r b base t tb n : Nat) (pm mo ea pa : Int) (ks : List (Int × Rp)) (L : LB) (T : LT) (w : World) (h : RW w r b base t tb n pm mo ea pa ks T) {lo : Nat} (hs : SoR lo w so x) (hlo : ∀ i, RWb w r b t ks i → i < lo) (hso : ∀ m f, x = some (m, f) → ∀ i, m ≤ i → f i = false) (hm : Sl w mv 1 ml (intL may)) (hml : ml ≤ 9007199254740992) (hmv : ∀ x m c, mv = .slice (some x) m c → 0 < ml → ¬ Fl.RTb w t x.block) (he : mapV Rp.f ks = L) (hr' : Rising ks) (hl : ks.length ≤ 64) (hok : Fl.Okk mo ea T) (hmo : mo ≤ 256) (hkn : ∀ q ∈ T, q.1 < (n : Int)) (hn : 1 ≤ n ∧ n ≤ 1024) :
    Calls Tryz.prog 35 #[.pointer (some ⟨r, 0, none⟩), .int .i64 now, .pointer (so.map fun s => ⟨s, 0, none⟩), mv, .int .u64 seed] w fun e w' => RqE (nextA n mo ea L now x may seed T).2.1 (nextA n mo ea L now x may seed T).2.2 w e w' ∧ Fl.StepT t tb mo ea pa (nextA n mo ea L now x may seed T).1 w w' ∧ ∀ v er i, e = .returned (.tuple #[v, er]) → v.ownBlock = some i → ¬ Fl.RTb w' t i := by
  have HRI := Lib.hid (refRight now so x r b base t tb n pm mo ea pa ks T w h hs)
  by_cases hr : rightA n now x = true
  · obtain ⟨hq, f, rfl⟩ := rightA_some hr
    rw [hr] at HRI
    rw [nextA_some hq]
    rcases hs with ⟨_, e⟩ | ⟨y, yg, m, f', rfl, e, hy, hl1, hl2⟩
    · cases e
    cases e
    have HLO : Hid (∀ i, RWb w r b t ks i → i ≠ y ∧ i ≠ yg) := fun i hi => by have := hlo i hi; omega
    have HRW := Lib.hid h
    have HY := Lib.hid hy
    have HFO := Lib.hid (hso n f rfl)
    have HINV : Hid (InvS n mo ea (T, [])) := ⟨hok, hkn, Nat.zero_le _⟩
    have HMAY := Lib.hid hm
    have HMV : Hid (∀ x m c, mv = .slice (some x) m c → 0 < ml → ¬ Fl.RTb w t x.block ∧ x.block < w.heap.size) := fun x m c e h0 => by
      refine ⟨hmv x m c e h0, ?_⟩
      obtain ⟨hml', a, c', hv, hc⟩ := sl_ints hm
      rw [hv] at e
      cases e
      obtain ⟨x', e', hx⟩ := hc 0 _ (List.getElem?_eq_getElem (by omega))
      cases e'
      have := World.block_lt_of_cell? w _ hx
      rwa [Addr.add_block] at this
    have HE := Lib.hid he
    have HRI' := Lib.hid hr'
    have HSM : Hid ((1 ≤ n ∧ n ≤ 1024) ∧ mo ≤ 256 ∧ ks.length ≤ 64) := ⟨hn, hmo, hl⟩
    have HKL : Hid ((keysL L).length ≤ 64) := by show (keysL L).length ≤ 64; rw [← he, keys_mapV]; unfold keysL; rw [List.length_map]; exact hl
    obtain ⟨R, hR⟩ : ∃ R, R = nextS n mo ea L f now seed may (keysL L) (T, []) := ⟨_, rfl⟩
    rw [← hR]
    have HR := Lib.hid hR
    clear h hok hkn hy hr hq hR hn hmo hso hlo hm hmv he hr' hl hl1 hl2
    dsimp only
    go_enter Tryz.func35, Tryz.ntmps35
    go_wp2_with fail
    refine HRI.out.mono ?_; rintro e w1 ⟨rfl, m1⟩
    have hrm := HRW.out.modB m1 fun _ _ h => h
    have HRW1 := Lib.hid hrm.1
    have HRB1 := Lib.hid hrm.2
    have M1 := Lib.hid m1
    have hpe := refRPeers b base n pm ks w1 HRW1.out.rd (by have := HSM.out; omega)
    rw [← keys_mapV Rp.f ks, HE.out] at hpe
    have HPE := Lib.hid hpe
    have c0 := HRW1.out.at.1
    clear m1 hrm hpe
    go_wp2_with fail
    refine HPE.out.mono ?_; rintro e w2 ⟨v, rfl, o2, m2⟩
    obtain ⟨hkl, a, c, rfl, hcells⟩ := sl_ints o2.sl
    have hrm := HRW1.out.modB m2 fun _ _ h => h
    have HCE := Lib.hid hcells
    have HXB : Hid (∀ X : Addr, a = some X → ¬ Fl.RTb w2 t X.block) := fun X e hx => by
      subst e
      have h1 := (o2.blk X _ _ rfl).1
      have h2 := HRW1.out.lt (hrm.2 _ (.inr (.inr hx)))
      omega
    have HRW2 := Lib.hid hrm.1
    have HRB2 : Hid (∀ i, RWb w2 r b t ks i → RWb w r b t ks i) := fun i hi => HRB1.out i (hrm.2 i hi)
    have HY2 := Lib.hid ((HY.out.mod M1.out (fun h => h) (fun h => h)).mod m2 (fun h => h) (fun h => h))
    have HMAY2 := Lib.hid ((HMAY.out.mod M1.out (fun _ _ _ _ h => h)).mod m2 (fun _ _ _ _ h => h))
    have M2 := Lib.hid (M1.out.trans m2)
    obtain ⟨KL, hKL⟩ : ∃ x, x = keysL L := ⟨_, rfl⟩
    rw [← hKL] at HR HCE HKL hkl ⊢
    clear hkl o2 hcells m2 hrm c0 HPE hKL HRW1 HRB1 HY HMAY M1 HRI
    go_wp2_with fail
    go_loopw [13, 15] (fun v i wr => ∃ (k : Nat) (st : LT × LT), i = .int .i64 k ∧ k ≤ KL.length ∧ Hid (nextS n mo ea L f now seed may (KL.drop k) st = R) ∧ Hid (InvS n mo ea st) ∧ Hid (Fl.StepT t tb mo ea pa st.1 w2 wr) ∧ Hid (wr.ownsRow w2.heap.size Fl.TRq 3 v st.2.length (Fl.rqL st.2)) ∧ Hid (FreeT wr t v)) (fun _ i _ => KL.length - (intOf i).toNat)
    case atStart => exact ⟨0, (T, []), rfl, Nat.zero_le _, HR.out.symm, HINV.out, Fl.StepT.same HRW2.out.rt (Mod.refl _ _), World.ownsRow_nil _ _ _ _, fun i hi => by cases hi⟩
    case round =>
      obtain ⟨k, st1, rfl, hk, hRR, hinv, hst, hown, hfr⟩ := hrel
      by_cases hlt : (k : Int) < KL.length
      · have hlt2 : k < KL.length := by omega
        obtain ⟨p, hp⟩ : ∃ p, KL[k]? = some p := ⟨_, List.getElem?_eq_getElem hlt2⟩
        obtain ⟨X, rfl, hpx⟩ := HCE.out k p hp
        have px := hst.out.2.1.cell hpx (by rw [Addr.add_block]; exact HXB.out X rfl)
        have HPX := Lib.hid hpx
        have HST : Hid (nextS n mo ea L f now seed may (KL.drop (k + 1)) (if p ∈ may then runS n mo ea L f now seed p 300 st1 else st1) = R) := by
          have := hRR.out
          rw [List.drop_eq_getElem_cons hlt2, (List.getElem?_eq_some_iff.1 hp).2] at this
          exact this
        have HK2 : Hid (k < KL.length ∧ KL.length ≤ 64) := ⟨hlt2, HKL.out⟩
        have HIX : Hid ((k : Int) < KL.length) := hlt
        have HHI := Lib.hid (refMay mv ml may p wr (HMAY2.out.keepM hst.out.2.1 fun x m c e h0 hx => by
            have h1 := HMV.out x m c e h0
            exact h1.1 ((HRW.out.rt.modB M2.out fun _ _ h => h).2 _ hx)) hml)
        obtain ⟨wb, hwb⟩ : ∃ wb : World, wb = wr := ⟨_, rfl⟩
        rw [← hwb] at hst hown hfr px HHI ⊢
        clear hwb hp hRR hpx
        go_wp2_with fail
        refine HHI.out.mono ?_; rintro e w3 ⟨rfl, rfl⟩
        obtain ⟨B0, hB0⟩ : ∃ B0, B0 = decide (p ∈ may) := ⟨_, rfl⟩
        obtain ⟨TG, hTG⟩ : ∃ TG, TG = (if p ∈ may then runS n mo ea L f now seed p 300 st1 else st1) := ⟨_, rfl⟩
        have HTG0 : Hid ((if B0 = true then runS n mo ea L f now seed p 300 st1 else st1) = TG) := by
          show _ = _
          rw [hTG, hB0]
          by_cases hpm : p ∈ may
          · rw [decide_eq_true hpm, if_pos rfl, if_pos hpm]
          · rw [decide_eq_false hpm, if_neg (by decide), if_neg hpm]
        rw [← hTG] at HST
        rw [← hB0]
        clear hTG hB0 HHI px
        go_wp2_with fail
        go_loopw [13, 16] (fun v ok wr => ∃ (B : Bool) (m : Nat) (st2 : LT × LT), ok = .bool B ∧ Hid ((if B = true then runS n mo ea L f now seed p m st2 else st2) = TG) ∧ Hid (m + st2.2.length = 300 + st1.2.length) ∧ Hid (InvS n mo ea st2) ∧ Hid (Fl.StepT t tb mo ea pa st2.1 w2 wr) ∧ Hid (wr.ownsRow w2.heap.size Fl.TRq 3 v st2.2.length (Fl.rqL st2.2)) ∧ Hid (FreeT wr t v)) (fun v ok _ => measB ok v)
        case atStart => exact ⟨B0, 300, st1, rfl, HTG0.out, rfl, hinv.out, hst.out, hown.out, hfr.out⟩
        case round =>
          obtain ⟨B, m, st2, rfl, htg, hm2, hinv2, hst2, hown2, hfr2⟩ := hrel
          cases B with
          | false =>
            have HTG := Lib.hid (show st2 = TG from htg.out)
            have hk2 := HK2.out
            have hkw : wrap64 ((k : Int) + 1) = ((k + 1 : Nat) : Int) := by unfold wrap64; omega
            clear htg hm2
            go_wp2_with fail
            go_roundw
            case rel =>
              have hk2 := HK2.out
              exact ⟨k + 1, st2, by go_num, by omega, by show _ = _; rw [HTG.out]; exact HST.out, hinv2.out, hst2.out, hown2.out, hfr2.out⟩
            case measure =>
              have hk2 := HK2.out
              simp [intOf]
              omega
          | true =>
            obtain ⟨T2, l2⟩ := st2
            have hsm := HSM.out
            have hlen : T2.length ≤ 256 := by have h1 := hinv2.out.ok.len; dsimp only at h1; omega
            have hll : l2.length ≤ 256 := by have h1 := hinv2.out.ll; dsimp only at h1; omega
            obtain ⟨m', rfl⟩ : ∃ m', m = m' + 1 := ⟨m - 1, by have h1 := hm2.out; dsimp only at h1; omega⟩
            have hRWr := HRW2.out.tmod hst2.out
            have HRWr := Lib.hid hRWr
            have hYr := HY2.out.mod hst2.out.2.1 (fun e => (HLO.out y (HRB2.out _ (.inr (.inr e)))).1 rfl) (fun e => (HLO.out yg (HRB2.out _ (.inr (.inr e)))).2 rfl)
            have HYr := Lib.hid hYr
            have HKNr : Hid (∀ q ∈ T2, 0 ≤ q.1 ∧ q.1 < (n : Int)) := fun q hq => ⟨(hinv2.out.ok.rng q hq).1, hinv2.out.kn q hq⟩
            have HO := Lib.hid (fun rn => refOut18 y yg f r b base t tb n pm mo ea pa ks T2 (wr.drewN rn) (HRWr.out.new ((Mod.refl _ wr).drewN rn)) (HYr.out.drewN rn) HFO.out HSM.out.1 HKNr.out hlen)
            obtain ⟨sd, hsd⟩ : ∃ x, x = IntKind.u64.wrap (seed + (l2.length : Int)) := ⟨_, rfl⟩
            obtain ⟨q, hq⟩ : ∃ q, q = pkS n L f seed p (T2, l2) := ⟨_, rfl⟩
            have hqd : pickA n L p (some (n, outF n f T2)) sd = q := by rw [hq, hsd]; rfl
            have hspec := pickA_spec n L p sd (outF n f T2)
            rw [hqd] at hspec
            have HSP := Lib.hid hspec
            have HPK : Hid (∀ w5, Mod (fun _ => False) wr w5 → ∀ z zg, RSet w5 z zg n (outF n f T2) → Calls Tryz.prog 67 #[.pointer (some ⟨b, 0, none⟩), .int .i64 p, .pointer (some ⟨z, 0, none⟩), .int .u64 sd] w5 fun e w' => e = .returned (.int .i64 q) ∧ Mod (fun _ => False) w5 w') := fun w5 m5 z zg hz => by
              have := refPick p sd (some z) (some (n, outF n f T2)) b base n pm ks L w5 (HRWr.out.new m5).rd HE.out HRI'.out HSM.out.2.2 HSM.out.1.2 (lo := 0) (.inr ⟨z, zg, n, _, rfl, rfl, hz, Nat.zero_le _, Nat.zero_le _⟩)
              rw [hqd] at this
              exact this
            obtain ⟨A, hA⟩ : ∃ A, A = askS n mo ea L f now seed p (T2, l2) := ⟨_, rfl⟩
            have hAk : A = askAt mo ea now p q (T2, l2) := by rw [hA, hq]; rfl
            have HAK := Lib.hid hAk
            have HR1 : Hid (A = none → runS n mo ea L f now seed p (m' + 1) (T2, l2) = (T2, l2)) := fun e => runS_none (hA.symm.trans e)
            have HR2 : Hid (∀ st', A = some st' → runS n mo ea L f now seed p (m' + 1) (T2, l2) = runS n mo ea L f now seed p m' st') := fun st' e => runS_some (hA.symm.trans e)
            have hw1 : IntKind.u64.wrap (l2.length : Int) = l2.length := wrapU (by omega) (by omega)
            have hw2 : IntKind.u64.wrap (seed + (l2.length : Int)) = sd := hsd.symm
            have c0 := hRWr.at.1
            have px := hst2.out.2.1.cell HPX.out (by rw [Addr.add_block]; exact HXB.out X rfl)
            have hix := HIX.out
            obtain ⟨a6, cap6, hv6, _, _, _⟩ := hown2.out.els
            dsimp only at hv6
            subst hv6
            have HLN := Lib.hid hlen
            clear hRWr hYr hq hqd hspec hA hAk hsd hsm hlen
            go_wp2_with fail
            refine wp_region2 [(3, 3), (7, 3), (10, 4), (13, 0), (14, 0)] [] (by kernel_rfl) (by kernel_rfl) ?_
            repeat (first | (refine reg_anyT (by rfl) (fun K hK => ?_); go_simp; refine hK _ _ ?_; clear hK K) | (refine reg_read (by rfl) (fun K hK => ?_); go_simp; refine hK _ _ ?_; clear hK K))
            refine reg_hold_v (by rfl) (by rfl) (.pointer (some ⟨b, 0, none⟩)) (fun w' hw' => q_load _ _ _ rfl rfl Tryz.isAgg50 (hw'.cell c0)) ?_
            repeat (first | (refine reg_anyT (by rfl) (fun K hK => ?_); go_simp; refine hK _ _ ?_; clear hK K) | (refine reg_read (by rfl) (fun K hK => ?_); go_simp; refine hK _ _ ?_; clear hK K))
            refine reg_hold_v (by rfl) (by rfl) (.int .i64 p) (fun w' hw' => q_load _ _ _ rfl rfl Tryz.isAgg3 (hw'.cell px)) ?_
            repeat (first | (refine reg_anyT (by rfl) (fun K hK => ?_); go_simp; refine hK _ _ ?_; clear hK K) | (refine reg_read (by rfl) (fun K hK => ?_); go_simp; refine hK _ _ ?_; clear hK K))
            refine reg_new (by rfl) (fun rn K hK => ?_); go_simp
            refine (HO.out rn).mono ?_; rintro e w' ⟨z, zg, rfl, h5, m5, _, _⟩
            refine hK _ _ ⟨m5.ex, ?_⟩; clear hK K
            repeat (first | (refine reg_anyT (by rfl) (fun K hK => ?_); go_simp; refine hK _ _ ?_; clear hK K) | (refine reg_read (by rfl) (fun K hK => ?_); go_simp; refine hK _ _ ?_; clear hK K))
            refine reg_eff (by rfl) (fun rn K hK => ?_); go_simp
            refine (HPK.out _ (m5.undrew.drewN rn) z zg (h5.drewN rn)).mono ?_; rintro e w' ⟨rfl, m6⟩
            refine hK _ _ ?_; clear hK K
            repeat (first | (refine reg_anyT (by rfl) (fun K hK => ?_); go_simp; refine hK _ _ ?_; clear hK K) | (refine reg_read (by rfl) (fun K hK => ?_); go_simp; refine hK _ _ ?_; clear hK K))
            refine reg_nil (fun nd => ?_)
            have MX := m5.undrew.trans (m6.undrew.drewN nd)
            have HST6 := Lib.hid (StepT.other (S := fun _ => False) hst2.out MX (fun _ e => e.elim) (fun _ _ e => e)).1
            have HO6 := Lib.hid (owns_new hown2.out MX)
            have HF6 : Hid (FreeT (World.drewN w' nd) t (.slice a6 l2.length cap6)) := fun i hi hj => hfr2.out i hi ((StepT.other (S := fun _ => False) hst2.out MX (fun _ e => e.elim) (fun _ _ e => e)).2 i hj)
            clear m5 m6 c0 px h5 MX HO HPK HRWr HYr hst2 hown2 hfr2
            generalize World.drewN w' nd = w6 at *
            clear w'
            have c1 := (HRW2.out.tmod HST6.out).at.2
            have px := HST6.out.2.1.cell HPX.out (by rw [Addr.add_block]; exact HXB.out X rfl)
            by_cases hq0 : q < 0
            · have b0 : decide (0 ≤ q) = false := by simpa using hq0
              have HTT : Hid ((T2, l2) = TG) := by
                show _ = _
                have h1 : A = none := by rw [HAK.out]; unfold askAt; rw [if_pos hq0]
                have h2 := htg.out
                rw [if_pos trivial, HR1.out h1] at h2
                exact h2
              clear htg
              go_wp2_with fail
              go_roundw
              case rel => exact ⟨false, m' + 1, (T2, l2), rfl, by show _ = _; rw [if_neg (by decide)]; exact HTT.out, hm2.out, hinv2.out, HST6.out, HO6.out, HF6.out⟩
              case measure => show measB (.bool false) _ < measB (.bool true) _; show 0 < 601 - l2.length; omega
            · obtain ⟨j, rfl⟩ : ∃ j : Nat, q = (j : Int) := ⟨q.toNat, by omega⟩
              have HJN : Hid (j < n) := by
                rcases HSP.out with ⟨h1, _⟩ | ⟨x, h1, h2, _⟩
                · exfalso; omega
                · show j < n; omega
              obtain ⟨E, hE⟩ : ∃ E, E = Fl.askE mo ea T2 p j now := ⟨_, rfl⟩
              have HEE := Lib.hid hE
              have b0 : decide (0 ≤ (j : Int)) = true := by simp
              have hA0 := fun rn => Fl.refAsk p j now t tb mo ea pa T2 (w6.drewN rn) (HST6.out.1.drewN rn) (by have := HLN.out; omega) hinv2.out.ok.rising (by have h1 := HRW2.out.hb.2; have h2 := HST6.out.2.1.size; show tb ≤ w6.heap.size; omega)
              by_cases he : E = 0
              · have hRs : A = some (putL T2 (j : Int) ⟨p, now⟩, l2 ++ [((j : Int), ⟨p, now⟩)]) := by rw [HAK.out]; unfold askAt; rw [if_neg (by omega)]; dsimp only; rw [← hE, if_pos he]
                have hK : Fl.askK mo ea T2 p j now = putL T2 j ⟨p, now⟩ := by unfold Fl.askK; rw [← hE, if_pos he]
                have HTT : Hid (runS n mo ea L f now seed p m' (putL T2 (j : Int) ⟨p, now⟩, l2 ++ [((j : Int), ⟨p, now⟩)]) = TG) := by
                  show _ = _
                  have h2 := htg.out
                  rw [if_pos trivial, HR2.out _ hRs] at h2
                  exact h2
                rw [hK, ← hE, he] at hA0
                have HA := Lib.hid hA0
                have HIN : Hid (InvS n mo ea (putL T2 (j : Int) ⟨p, now⟩, l2 ++ [((j : Int), ⟨p, now⟩)])) := hinv2.out.ask HJN.out (hE.symm.trans he)
                subst he
                clear hA0 hK hRs htg hE
                go_wp2_with fail
                refine wp_region2 [] [] (by kernel_rfl) (by kernel_rfl) ?_
                repeat (first | (refine reg_anyT (by rfl) (fun K hK => ?_); go_simp; refine hK _ _ ?_; clear hK K) | (refine reg_read (by rfl) (fun K hK => ?_); go_simp; refine hK _ _ ?_; clear hK K))
                refine reg_eff (by rfl) (fun rn K hK => ?_); go_simp
                refine (HA.out rn).mono ?_; rintro e w' ⟨rfl, s7⟩
                refine hK _ _ ?_; clear hK K
                repeat (first | (refine reg_anyT (by rfl) (fun K hK => ?_); go_simp; refine hK _ _ ?_; clear hK K) | (refine reg_read (by rfl) (fun K hK => ?_); go_simp; refine hK _ _ ?_; clear hK K))
                refine reg_nil (fun nd2 => ?_)
                have hs7 : Fl.StepT t tb mo ea pa (putL T2 (j : Int) ⟨p, now⟩) w6 (World.drewN w' nd2) := (StepT.other (S := fun _ => False) (StepT.thenT (Fl.StepT.same HST6.out.1 ((Mod.refl _ w6).drewN _)) s7) ((Mod.refl _ w').drewN nd2) (fun _ e => e.elim) (fun _ _ e => e)).1
                have HO7 := Lib.hid (own_step HF6.out HO6.out hs7)
                have HF7 := Lib.hid (HF6.out.step HO6.out hs7)
                have HS7 := Lib.hid (StepT.thenT HST6.out hs7)
                clear s7 hs7 HO6 HF6 HST6 c1 px HA
                generalize World.drewN w' nd2 = w7 at *
                clear w'
                have px := HS7.out.2.1.cell HPX.out (by rw [Addr.add_block]; exact HXB.out X rfl)
                go_wp2_with (at_builtin; refine app1 (base := w2.heap.size) rfl (.tmp 77) (.tmp 85) 39 Fl.TRq 3 rfl Tryz.underlying39 Fl.infoRq rfl (by decide) _ _ _ _ 1 [.int .i64 p, .int .i64 j, .int .i64 now] (by have := HS7.out.2.1.size; simp; omega) (HO7.out.alloc _) rfl rfl (sl_new w7 _ _) (by simp [Value.oneCell']) (by decide) (by omega) ?_; intro v' w8 g1 g2 g3
                             have G1 := Lib.hid g1
                             have G2 := Lib.hid (((Mod.refl _ w7).alloc (.cells #[.int .i64 p, .int .i64 j, .int .i64 now] Fl.TRq)).trans g2)
                             have G3 := Lib.hid g3
                             clear g1 g2 g3)
                have hso := StepT.other HS7.out G2.out (own_ge HO7.out) (fun i hi e => HF7.out i e hi)
                have HS8 := Lib.hid hso.1
                have HF8 := Lib.hid (HF7.out.app hso.2 (fun i hi => by have := (HS7.out.1.low hi).1; simp; omega) G3.out)
                rw [← rqL_put l2 (j : Int) ⟨p, now⟩] at G1
                clear hso
                have hmm : m' + (l2 ++ [((j : Int), (⟨p, now⟩ : Fl.Rq))]).length = 300 + st1.2.length := by have h1 := hm2.out; rw [List.length_append]; simp; omega
                obtain ⟨a8, cap8, hv8, _, _, _⟩ := G1.out.els
                subst hv8
                refine ⟨⟨true, m', (putL T2 (j : Int) (⟨p, now⟩ : Fl.Rq), l2 ++ [((j : Int), (⟨p, now⟩ : Fl.Rq))]), rfl, by show _ = _; rw [if_pos rfl]; exact HTT.out, hmm, HIN.out, HS8.out, by dsimp only; rw [List.length_append]; exact G1.out, HF8.out⟩, ?_⟩
                show 601 - (l2.length + 1) < 601 - l2.length
                omega
              · have hRs : A = none := by rw [HAK.out]; unfold askAt; rw [if_neg (by omega)]; dsimp only; rw [← hE, if_neg he]
                have hK : Fl.askK mo ea T2 p j now = T2 := by unfold Fl.askK; rw [← hE, if_neg he]
                have HTT : Hid ((T2, l2) = TG) := by
                  show _ = _
                  have h2 := htg.out
                  rw [if_pos trivial, HR1.out hRs] at h2
                  exact h2
                rw [hK, ← hE] at hA0
                have HA := Lib.hid hA0
                have he' : (E == 0) = false := by simpa using he
                clear hA0 hK hRs htg hE he
                go_wp2_with fail
                refine wp_region2 [] [] (by kernel_rfl) (by kernel_rfl) ?_
                repeat (first | (refine reg_anyT (by rfl) (fun K hK => ?_); go_simp; refine hK _ _ ?_; clear hK K) | (refine reg_read (by rfl) (fun K hK => ?_); go_simp; refine hK _ _ ?_; clear hK K))
                refine reg_eff (by rfl) (fun rn K hK => ?_); go_simp
                refine (HA.out rn).mono ?_; rintro e w' ⟨rfl, s7⟩
                refine hK _ _ ?_; clear hK K
                repeat (first | (refine reg_anyT (by rfl) (fun K hK => ?_); go_simp; refine hK _ _ ?_; clear hK K) | (refine reg_read (by rfl) (fun K hK => ?_); go_simp; refine hK _ _ ?_; clear hK K))
                refine reg_nil (fun nd2 => ?_)
                have hs7 : Fl.StepT t tb mo ea pa T2 w6 (World.drewN w' nd2) := (StepT.other (S := fun _ => False) (StepT.thenT (Fl.StepT.same HST6.out.1 ((Mod.refl _ w6).drewN _)) s7) ((Mod.refl _ w').drewN nd2) (fun _ e => e.elim) (fun _ _ e => e)).1
                have HO7 := Lib.hid (own_step HF6.out HO6.out hs7)
                have HF7 := Lib.hid (HF6.out.step HO6.out hs7)
                have HS7 := Lib.hid (StepT.thenT HST6.out hs7)
                clear s7 hs7 HO6 HF6 HST6 c1 px HA
                generalize World.drewN w' nd2 = w7 at *
                clear w'
                go_wp2_with fail
                go_roundw
                case rel => exact ⟨false, m' + 1, (T2, l2), rfl, by show _ = _; rw [if_neg (by decide)]; exact HTT.out, hm2.out, hinv2.out, HS7.out, HO7.out, HF7.out⟩
                case measure => show measB (.bool false) _ < measB (.bool true) _; show 0 < 601 - l2.length; omega
      · have hkd : KL.drop k = [] := List.drop_eq_nil_of_le (by omega)
        have hR2 := hRR.out
        rw [hkd] at hR2
        have hR3 : st1 = R := hR2
        subst hR3
        have S3 := Lib.hid (StepT.thenT (Fl.StepT.same HRW.out.rt M2.out) hst.out)
        clear hkd hR2 hRR
        go_wp2_with fail
        go_ret2
        exact ⟨⟨_, rfl, hown.out.mono M2.out.size⟩, S3.out, fun v er i e hi => by cases e; exact hfr.out i hi⟩
  · have e1 : nextA n mo ea L now x may seed T = (T, [], 1) := by unfold nextA; rw [if_neg hr]
    rw [e1]
    have hr2 : rightA n now x = false := by simpa using hr
    rw [hr2] at HRI
    have HRT := Lib.hid h.rt
    clear h hs hok hkn hr hr2 e1 hn hmo hso hlo hm hmv he hr' hl
    go_enter Tryz.func35, Tryz.ntmps35
    go_wp2_with fail
    refine HRI.out.mono ?_; rintro e w1 ⟨rfl, m1⟩
    have S1 := Lib.hid (Fl.StepT.same HRT.out m1)
    clear m1
    go_wp2_with fail
    go_ret2
    exact ⟨⟨_, rfl, World.ownsRow_nil _ _ _ _⟩, S1.out, fun v er i e hi => by cases e; cases hi⟩
end Go.Proofs.YtjmfhcliggjdgaaGreatDoor
