/- Package files: Write; no condition. -/
import Derived.Test.YtdlplablojdjlaaJi
namespace Go.Proofs.Ytdlplablojdjlaa
open Go Go.RowKit Go.IntWalk

theorem OB.base {w : World} {b b' : Nat} {v : Value} {bs : List Nat} (h : OB w b v bs) (hb : b' ≤ b) : OB w b' v bs := by
  obtain ⟨h1, h2⟩ := h
  rcases h2 with h2 | ⟨g, cap, cur, hv, hg, rest⟩
  · exact ⟨h1, .inl h2⟩
  · exact ⟨h1, .inr ⟨g, cap, cur, hv, Nat.le_trans hb hg, rest⟩⟩
section
variable {base d R m : Nat} {w : World} {q : QF} {st wv : Value} {ms : List Nat} {ls : List LT3} {o : Bool} {F : FileS}
theorem mvq_same (h : q o = some F) (n s : List Nat) : mvq (putQ q o ⟨F.b, n, s⟩) = mvq q := by
  funext p
  unfold mvq putQ
  by_cases e : p = o
  · subst e; simp [h]
  · simp [e]
theorem DK.neO (h : DK w base d R m q st ms wv ls) (hq : q o = some F) {p : Bool} {G : FileS} (hp : p ≠ o) (hg : q p = some G) : G.b ≠ F.b := by
  cases o <;> cases p
  · exact absurd rfl hp
  · exact fun e => h.ne F G hq hg e.symm
  · exact h.ne G F hg hq
  · exact absurd rfl hp
theorem DK.setAt (h : DK w base d R m q st ms wv ls) (hq : q o = some F) (j : Nat) (v : Value) (n s : List Nat)
    (hk : FK (w.setCell ⟨F.b, j, none⟩ v) base ⟨F.b, n, s⟩) : DK (w.setCell ⟨F.b, j, none⟩ v) base d R m (putQ q o ⟨F.b, n, s⟩) st ms wv ls ∧ TM [78] base w (w.setCell ⟨F.b, j, none⟩ v) := by
  obtain ⟨⟨nv, sv, hb, hn, hs⟩, hge, hsm⟩ := h.hf o F hq
  have T := TM.set (ts := [78]) hb hge (by simp) j v
  refine ⟨⟨T.blk h.hd (by simp), ?_, T.owns h.hst (by simp), T.owns h.hwv (by simp), fun p G hG => ?_, fun A B hA hB => ?_, h.bd, h.rm⟩, T⟩
  · rw [mvq_same hq]; exact T.smap h.hm
  · unfold putQ at hG
    split at hG
    · cases hG; exact hk
    · rename_i hp
      obtain ⟨⟨nv2, sv2, hb2, hn2, hs2⟩, hge2, hsm2⟩ := h.hf p G hG
      exact ⟨⟨nv2, sv2, hb2.setOther (by show F.b ≠ G.b; exact (h.neO hq hp hG).symm) v, T.ob hn2 (by simp), T.ob hs2 (by simp)⟩, hge2, hsm2⟩
  · unfold putQ at hA hB
    cases o with
    | false =>
      simp at hA hB
      subst hA
      exact h.ne F B hq hB
    | true =>
      simp at hA hB
      subst hB
      exact h.ne A F hA hq
theorem DK.setNow (h : DK w base d R m q st ms wv ls) (hq : q o = some F) {v : Value} {n : List Nat} (hv : OB w base v n) (hn : n.length ≤ 1048576) :
    DK (w.setCell ⟨F.b, 0, none⟩ v) base d R m (putQ q o ⟨F.b, n, F.s⟩) st ms wv ls ∧ TM [78] base w (w.setCell ⟨F.b, 0, none⟩ v) := by
  refine h.setAt hq 0 v n F.s ?_
  obtain ⟨⟨nv, sv, hb, h1, h2⟩, hge, hsm⟩ := h.hf o F hq
  have T := TM.set (ts := [78]) hb hge (by simp) 0 v
  exact ⟨⟨v, sv, hb.set 0 v, T.ob hv (by simp), T.ob h2 (by simp)⟩, hge, hn⟩
theorem DK.setSure (h : DK w base d R m q st ms wv ls) (hq : q o = some F) {v : Value} {s : List Nat} (hv : OB w base v s) :
    DK (w.setCell ⟨F.b, 1, none⟩ v) base d R m (putQ q o ⟨F.b, F.n, s⟩) st ms wv ls ∧ TM [78] base w (w.setCell ⟨F.b, 1, none⟩ v) := by
  refine h.setAt hq 1 v F.n s ?_
  obtain ⟨⟨nv, sv, hb, h1, h2⟩, hge, hsm⟩ := h.hf o F hq
  have T := TM.set (ts := [78]) hb hge (by simp) 1 v
  exact ⟨⟨nv, v, hb.set 1 v, T.ob h1 (by simp), T.ob hv (by simp)⟩, hge, hsm⟩
end
/-- The row of writes turns. -/
theorem DK.setW {base d R m : Nat} {w w' : World} {q : QF} {st wv v : Value} {ms : List Nat} {ls ls' : List LT3} (h : DK w base d R m q st ms wv ls) (hm : TM [74] base w w') (ho : w'.ownsRow base 74 3 v ls'.length (flat ls')) (rn nd : Nat) :
    DK (((w'.drewN rn).setCell ⟨d, 3, none⟩ v).drewN nd) base d R m q st ms v ls' ∧ TM tD base w (((w'.drewN rn).setCell ⟨d, 3, none⟩ v).drewN nd) := by
  have b1 : Blk (w'.drewN rn) d _ _ := hm.blk h.hd (by simp)
  have T := ((TM.new (ts := [49]) (base := base) ((Mod.refl (fun _ => False) w').drewN rn)).trans (TM.set (ts := [49]) b1 h.bd (by simp) 3 v)).trans (TM.new ((Mod.refl (fun _ => False) _).drewN nd))
  exact ⟨⟨b1.set 3 v, T.smap (hm.smap h.hm), T.owns (hm.owns h.hst (by simp)) (by simp), T.owns ho (by simp), fun o F e => ((h.hf o F e).tm hm (by simp) (by simp)).tm T (by simp) (by simp), h.ne, h.bd, h.rm⟩, (hm.more (by simp)).trans (T.more (by simp))⟩
theorem infoLt : (Try.prog.info? 74).map (fun i => (i.zero, i.size, i.bytes)) = some (some (.agg #[.pointer none, .int .i64 0, .slice none 0 0]), 3, 40) := by kernel_rfl
theorem len_wr (old : List Nat) (k : Nat) (b : List Nat) (h : k ≤ old.length) : (wr old k b).length = max old.length (k + b.length) := by
  unfold wr; simp; omega
set_option maxRecDepth 100000 in
set_option maxHeartbeats 4000000 in
theorem jWrite {base d R m : Nat} {w : World} {q : QF} {st wv : Value} {ms : List Nat} {ls : List LT3} (o : Bool) (F : FileS) (k : Nat) (u : Value) (bs : List Nat) (h : DK w base d R m q st ms wv ls) (hq : q o = some F) (hu : BS w u bs) (hub : ∀ x n c, u = .slice (some x) n c → x.block ≠ F.b)
    (hk : k ≤ F.n.length) (hb0 : 0 < bs.length) (hfit : k + bs.length ≤ 1048576) (hroom : lenq q false + lenq q true + bs.length ≤ R) (hls : ls.length ≤ 5) (hbase : base ≤ w.heap.size) :
    Calls Try.prog 25 #[.pointer (some ⟨d, 0, none⟩), .string (nmOf o), .int .i64 k, u] w fun e w' => e = .returned (.int .i64 0) ∧ ∃ wv' x, DK w' base d R m (putQ q o ⟨F.b, wr F.n k bs, F.s⟩) st ms wv' (ls ++ [(F.b, x)]) ∧ TM tD base w w' := by
  have HD := Lib.hid h
  have HQ := Lib.hid hq
  have HU := Lib.hid hu
  have HUB := Lib.hid hub
  have HBA := Lib.hid hbase
  have HLS := Lib.hid hls
  have HRT : Hid (∀ w : World, Calls Try.prog 53 #[.slice (some ⟨w.heap.size, 0, none⟩) 1 1] (w.alloc (.cells #[.string (nmOf o)] 9)) fun e w' => e = .returned (.bool true) ∧ Mod (fun _ => False) w w') := fun w => jRight1 o w
  have HJF : Hid (∀ w' : World, DK w' base d R m q st ms wv ls → Calls Try.prog 52 #[.pointer (some ⟨d, 0, none⟩), .string (nmOf o), .bool true] w' fun e w'' => e = .returned (.tuple #[.pointer (some ⟨F.b, 0, none⟩), .int .i64 0]) ∧ w'' = w') := fun w' h' => jFind o F h' hq
  obtain ⟨S, hS⟩ : ∃ S, S = nmOf o := ⟨_, rfl⟩
  rw [← hS] at HRT HJF ⊢
  obtain ⟨N, hN⟩ : ∃ N, N = lenq q false + lenq q true := ⟨_, rfl⟩
  have HJU : Hid (∀ w' : World, DK w' base d R m q st ms wv ls → Calls Try.prog 54 #[.pointer (some ⟨d, 0, none⟩)] w' fun e w'' => e = .returned (.int .i64 N) ∧ Mod (fun _ => False) w' w'') := fun w' h' => by rw [hN]; exact jUsed h'
  have hrm := h.rm
  have hnn : F.n.length ≤ N := by
    rw [hN]
    have : lenq q o = F.n.length := by unfold lenq; rw [hq]
    cases o <;> omega
  rw [← hN] at hroom
  obtain ⟨a, c, rfl⟩ : ∃ a c, u = .slice a bs.length c := by
    rcases hu.sl with ⟨rfl, h2, _⟩ | ⟨x, c, rfl, _, _⟩
    · exact ⟨none, 0, by rw [h2]⟩
    · exact ⟨some x, c, rfl⟩
  obtain ⟨n, hn⟩ : ∃ n, n = bs.length := ⟨_, rfl⟩
  obtain ⟨p, hp⟩ : ∃ p, p = F.n.length := ⟨_, rfl⟩
  rw [← hn] at HU HUB hb0 hfit hroom ⊢
  rw [← hp] at hk hnn
  have HN := Lib.hid hn
  have HP := Lib.hid hp
  have g1 : (0 : Int) ≤ k := by omega
  have g2 : (k : Int) ≤ 1048576 := by omega
  have g3 : IntKind.i64.wrap (1048576 - (k : Int)) = 1048576 - (k : Int) := wrapI (by omega) (by omega)
  have g4 : (n : Int) ≤ 1048576 - (k : Int) := by omega
  clear h hq hu hub hbase hls hS hN hn hp
  go_enter Try.func25, Try.ntmps25
  go_wp2_with fail
  refine (HRT.out w).mono ?_; rintro e w1 ⟨rfl, n1⟩
  have D1 := Lib.hid (HD.out.new n1)
  have N1 := Lib.hid n1
  clear n1 HRT HD
  go_wp2_with fail
  refine (HJF.out w1 D1.out).mono ?_; rintro e w' ⟨rfl, rfl⟩
  clear HJF
  have c0 := D1.out.hd.cell 0
  obtain ⟨⟨nv, sv, hb, hnv, hsv⟩, hge, hsm⟩ := D1.out.hf o F HQ.out
  obtain ⟨na, nc, rfl, _, _⟩ := hnv.len
  rw [← HP.out] at hb hnv hsm
  have f0 := hb.cell 0
  have HB := Lib.hid hb
  have HNV := Lib.hid hnv
  have HSV := Lib.hid hsv
  have HGE := Lib.hid hge
  have e1 : IntKind.i64.wrap ((k : Int) + n) = (k : Int) + n := wrapI (by omega) (by omega)
  have e2 : IntKind.i64.wrap ((k : Int) + n - p) = (k : Int) + n - p := by
    unfold IntKind.wrap; simp [IntKind.bits, IntKind.signed]; omega
  obtain ⟨g, hg⟩ : ∃ g : Nat, (g : Int) = max 0 ((k : Int) + n - p) := ⟨((max 0 ((k : Int) + n - p))).toNat, by omega⟩
  have hgn : g ≤ n := by omega
  have e3 : max (0 : Int) ((k : Int) + n - p) = g := hg.symm
  have e4 : IntKind.i64.wrap ((N : Int) + g) = (N : Int) + g := wrapI (by omega) (by omega)
  have e5 : ¬ ((R : Int) < (N : Int) + g) := by omega
  have HSM := Lib.hid hsm
  have HFIT := Lib.hid hfit
  have HK0 := Lib.hid (And.intro hk hb0)
  clear hb hnv hsv hge hg hgn hsm g3 g4 hfit hk hnn hrm hroom hb0
  go_wp2_with fail
  refine wp_regionO2 [0, 2, 3, 4, 5, 6, 7, 8, 9, 10, 11, 12, 14, 15, 16, 17, 1, 13, 18] [(3, 0), (8, 3), (9, 0), (15, 3), (16, 4)] [] (by kernel_rfl) (by kernel_rfl) (by simp only [List.filterMap_cons, List.filterMap_nil, List.getElem?_cons_zero, List.getElem?_cons_succ]; exact rfl) ?_
  repeat (first | (refine reg_anyT (by rfl) (fun K hK => ?_); go_simp; refine hK _ _ ?_; clear hK K) | (refine reg_read (by rfl) (fun K hK => ?_); go_simp; refine hK _ _ ?_; clear hK K))
  refine reg_hold_v (by rfl) (by rfl) (.slice na p nc) (fun w' hw' => q_load _ _ _ rfl rfl Try.isAgg37 (hw'.cell f0)) ?_
  repeat (first | (refine reg_anyT (by rfl) (fun K hK => ?_); go_simp; refine hK _ _ ?_; clear hK K) | (refine reg_read (by rfl) (fun K hK => ?_); go_simp; refine hK _ _ ?_; clear hK K))
  refine reg_hold_v (by rfl) (by rfl) (.int .i64 R) (fun w' hw' => q_load _ _ _ rfl rfl Try.isAgg3 (hw'.cell c0)) ?_
  repeat (first | (refine reg_anyT (by rfl) (fun K hK => ?_); go_simp; refine hK _ _ ?_; clear hK K) | (refine reg_read (by rfl) (fun K hK => ?_); go_simp; refine hK _ _ ?_; clear hK K))
  refine reg_new (by rfl) (fun rn K hK => ?_); go_simp
  refine (HJU.out _ (D1.out.drewN rn)).mono ?_; rintro e w2 ⟨rfl, m2⟩
  refine hK _ _ ⟨m2.ex, ?_⟩; clear hK K
  repeat (first | (refine reg_anyT (by rfl) (fun K hK => ?_); go_simp; refine hK _ _ ?_; clear hK K) | (refine reg_read (by rfl) (fun K hK => ?_); go_simp; refine hK _ _ ?_; clear hK K))
  refine reg_nil (fun nd => ?_)
  have mm := m2.undrew.drewN nd
  have D2 := Lib.hid (D1.out.new mm)
  have N2 := Lib.hid (N1.out.trans mm)
  have B2 := Lib.hid (HB.out.mod mm (fun e => e))
  have U2 := Lib.hid (HU.out.new N2.out)
  have V2 := Lib.hid (HNV.out.new mm)
  clear D1 N1 HB HU HNV HJU mm m2 c0 f0 e4 e3 e2 e1 g1 g2 HSV
  generalize w2.drewN nd = w3 at *
  have f0 := B2.out.cell 0
  have f1 := B2.out.frozen 0
  have HW : Hid (Calls Try.prog 33 #[.slice na p nc, .int .i64 k, .slice a n c] w3 fun e w' => ∃ v', e = .returned v' ∧ OB w' w3.heap.size v' (wr F.n k bs) ∧ Mod (fun _ => False) w3 w') := by
    have h1 := HSM.out; have h2 := HK0.out; have h3 := HFIT.out; have h4 := HP.out; have h5 := HN.out
    exact jWrote _ _ F.n bs k w3 V2.out.bs U2.out (by omega) (by omega) (by omega) (by omega)
  go_wp2_with fail
  refine HW.out.mono ?_; rintro e w4 ⟨v4, rfl, o4, m4⟩
  obtain ⟨a4, c4, rfl, _, _⟩ := o4.len
  have D4 := Lib.hid (D2.out.new m4)
  have N4 := Lib.hid (N2.out.trans m4)
  have B4 := Lib.hid (B2.out.mod m4 (fun e => e))
  have U4 := Lib.hid (U2.out.new m4)
  have O4 := Lib.hid (o4.base (Nat.le_trans HBA.out N2.out.size))
  have hwl : (wr F.n k bs).length ≤ 1048576 := by
    have h1 := HSM.out; have h2 := HK0.out; have h3 := HFIT.out; have h4 := HP.out; have h5 := HN.out
    rw [len_wr _ _ _ (by omega)]; omega
  have S5 := Lib.hid (D4.out.setNow HQ.out O4.out hwl)
  have f4 := B4.out.frozen 0
  have f5 := B4.out.cell 0
  obtain ⟨L, hL⟩ : ∃ L, L = (wr F.n k bs).length := ⟨_, rfl⟩
  rw [← hL] at S5 ⊢
  clear D2 N2 B2 U2 V2 HW o4 m4 f0 f1 O4 hwl hL D4 e5
  go_wp2_with fail
  have U5 : Hid (BS (w4.setCell ⟨F.b, 0, none⟩ (.slice a4 L c4)) (.slice a n c) bs) := U4.out.mod (Mod.at1 (· = F.b) rfl 0 _) (fun x n c e => HUB.out x n c e)
  have T5 := Lib.hid ((TM.new (ts := tD) (base := base) N4.out).trans (S5.out.2.more (by simp)))
  have D5 := Lib.hid S5.out.1
  clear S5 U4 B4 f4 f5 N4
  generalize w4.setCell ⟨F.b, 0, none⟩ (.slice a4 L c4) = w5 at *
  obtain ⟨wa, wc, hwv, _⟩ := D5.out.hwv.els
  subst hwv
  have y3 := D5.out.hd.cell 3
  have HBS : Hid (bs.length ≤ 1048576) := by have h3 := HFIT.out; have h5 := HN.out; show _ ≤ _; omega
  refine wp_region2 [(4, 3), (8, 4), (10, 4)] [] (by kernel_rfl) (by kernel_rfl) ?_
  repeat (first | (refine reg_anyT (by rfl) (fun K hK => ?_); go_simp; refine hK _ _ ?_; clear hK K) | (refine reg_read (by rfl) (fun K hK => ?_); go_simp; refine hK _ _ ?_; clear hK K))
  refine reg_hold_v (by rfl) (by rfl) (.slice wa ls.length wc) (fun w' hw' => q_load _ _ _ rfl rfl Try.isAgg47 (hw'.cell y3)) ?_
  repeat (first | (refine reg_anyT (by rfl) (fun K hK => ?_); go_simp; refine hK _ _ ?_; clear hK K) | (refine reg_read (by rfl) (fun K hK => ?_); go_simp; refine hK _ _ ?_; clear hK K))
  refine reg_new (by rfl) (fun rn K hK => ?_); go_simp
  refine (jClone _ bs _ (U5.out.new ((Mod.refl _ w5).drewN rn)) HBS.out).mono ?_; rintro e w6 ⟨v6, rfl, o6, m6⟩
  refine hK _ _ ⟨m6.ex, ?_⟩; clear hK K
  obtain ⟨a6, c6, rfl, _, _⟩ := o6.len
  obtain ⟨L6, hL6⟩ : ∃ L, L = bs.length := ⟨_, rfl⟩
  rw [← hL6]
  have D6 := Lib.hid (D5.out.new m6.undrew)
  have T6 := Lib.hid (T5.out.trans (TM.new m6.undrew))
  clear D5 T5 U5 y3 hL6 o6 m6
  repeat (first | (refine reg_anyT (by rfl) (fun K hK => ?_); go_simp; refine hK _ _ ?_; clear hK K) | (refine reg_read (by rfl) (fun K hK => ?_); go_simp; refine hK _ _ ?_; clear hK K))
  refine reg_new (by rfl) (fun rn K hK => ?_); go_simp
  refine hK _ _ ⟨((Mod.refl (fun _ => False) (w6.drewN rn)).alloc (.cells #[.pointer (some ⟨F.b, 0, none⟩), .int .i64 k, .slice a6 L6 c6] 74)).ex, ?_⟩; clear hK K
  have ma : Mod (fun _ => False) w6 ((w6.drewN rn).alloc (.cells #[.pointer (some ⟨F.b, 0, none⟩), .int .i64 k, .slice a6 L6 c6] 74)) := ((Mod.refl _ w6).drewN rn).alloc _
  have oa := TM.owns (TM.new (ts := []) (base := 0) ma) D6.out.hwv (by simp)
  refine reg_app (base := base) (by rfl) (by rfl) (.tmp 71) (.tmp 77) 47 74 3 rfl Try.underlying47 infoLt rfl (by decide) _ _ _ _ 1 [.pointer (some ⟨F.b, 0, none⟩), .int .i64 k, .slice a6 L6 c6] (Nat.le_trans (Nat.le_trans HBA.out T6.out.size) ma.size) oa rfl rfl (sl_new (w6.drewN rn) #[.pointer (some ⟨F.b, 0, none⟩), .int .i64 k, .slice a6 L6 c6] _) (by simp [Value.oneCell']) (by decide) (by have := HLS.out; omega) ?_
  intro v7 w7 o7 n7 a7
  refine ⟨fun _ => trivial, ?_⟩
  have T7 : TM [74] base w6 w7 := (TM.new ma).trans (TM.of n7 fun i _ hi => owns_isT oa (by simp) i hi)
  obtain ⟨b7, c7, rfl, _, _⟩ := o7.els
  have O7 : Hid (w7.ownsRow base 74 3 (.slice b7 (ls.length + 1) c7) (ls ++ [((F.b, (k : Int), a6, L6, c6) : LT3)]).length (flat (ls ++ [((F.b, (k : Int), a6, L6, c6) : LT3)]))) := by
    show World.ownsRow _ _ _ _ _ _ _
    have e : flat (ls ++ [((F.b, (k : Int), a6, L6, c6) : LT3)]) = flat ls ++ [.pointer (some ⟨F.b, 0, none⟩), .int .i64 k, .slice a6 L6 c6] := by
      unfold flat fp
      rw [List.flatMap_append]
      rfl
    rw [e, List.length_append]
    exact o7
  have H7 := Lib.hid T7
  have B7 : Blk w7 d _ _ := T7.blk D6.out.hd (by simp)
  have z2 := B7.frozen 3
  have z3 := B7.cell 3
  clear ma oa o7 n7 a7 T7 B7
  repeat (first | (refine reg_anyT (by rfl) (fun K hK => ?_); go_simp; refine hK _ _ ?_; clear hK K) | (refine reg_read (by rfl) (fun K hK => ?_); go_simp; refine hK _ _ ?_; clear hK K))
  refine reg_eff (by rfl) (fun rn K hK => ?_); go_simp; refine hK _ _ ?_; clear hK K
  repeat (first | (refine reg_anyT (by rfl) (fun K hK => ?_); go_simp; refine hK _ _ ?_; clear hK K) | (refine reg_read (by rfl) (fun K hK => ?_); go_simp; refine hK _ _ ?_; clear hK K))
  refine reg_nil (fun nd => ?_)
  have R8 := Lib.hid (D6.out.setW H7.out O7.out rn nd)
  have T8 := Lib.hid (T6.out.trans R8.out.2)
  clear z2 z3 H7 O7 T6 D6
  generalize ((w7.drewN rn).setCell ⟨d, 3, none⟩ (.slice b7 (ls.length + 1) c7)).drewN nd = w8 at *
  go_wp2_with fail
  go_ret
  exact ⟨rfl, _, _, R8.out.1, T8.out⟩
end Go.Proofs.Ytdlplablojdjlaa
