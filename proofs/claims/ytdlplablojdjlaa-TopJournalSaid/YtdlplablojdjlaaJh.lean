/- Package files: change, Create, Rename, SyncNames; no condition. -/
import Derived.Test.YtdlplablojdjlaaJg
import Derived.Deep.CutRange
namespace Go.Proofs.Ytdlplablojdjlaa
open Go Go.RowKit Go.IntWalk

theorem infoNm : (Try.prog.info? 45).map (fun i => (i.zero, i.size, i.bytes)) = some (some (.map none), 1, 8) := by kernel_rfl
theorem Mod.at1 {w : World} (S : Nat → Prop) {i : Nat} (h : S i) (j : Nat) (v : Value) : Mod S w (w.setCell ⟨i, j, none⟩ v) := (Mod.refl S w).setCell (.inl h) v
/-- What is no cells may turn: cells stay. -/
def NC (w : World) (S : Nat → Prop) : Prop := ∀ i, S i → ∀ cs t z, w.heap[i]? ≠ some (.cells cs t z)
section
variable {S : Nat → Prop} {w w' : World}
theorem SMap.nc {m : Nat} {M : MV} (h : SMap w m M) : NC w (· = m) := fun i hi cs t z e => by
  obtain ⟨es, c, h4⟩ := h.isMap
  rw [hi, h4] at e
  cases e
theorem NC.blk (h : NC w S) (hm : Mod S w w') {i : Nat} {cs : Array Value} {t : TypeId} (hb : Blk w i cs t) : Blk w' i cs t := hb.mod hm fun e => h i e _ _ _ hb
theorem NC.owns (h : NC w S) (hm : Mod S w w') {e : TypeId} {size base : Nat} {v : Value} {n : Nat} {xs : List Value} (ho : w.ownsRow base e size v n xs) : w'.ownsRow base e size v n xs := by
  obtain ⟨h1, h2⟩ := ho
  rcases h2 with h2 | ⟨g, cap, cur, hv, hb, hh, rest⟩
  · exact ⟨h1, .inl h2⟩
  · exact ⟨h1, .inr ⟨g, cap, cur, hv, hb, h.blk hm hh, rest⟩⟩
end
theorem FK.nc {S : Nat → Prop} {w w' : World} {base : Nat} {F : FileS} (h : FK w base F) (n : NC w S) (hm : Mod S w w') : FK w' base F := by
  obtain ⟨⟨nv, sv, a, b, c⟩, g, s⟩ := h
  exact ⟨⟨nv, sv, n.blk hm a, n.owns hm b, n.owns hm c⟩, g, s⟩
theorem TM.set {w : World} {base i : Nat} {cs : Array Value} {t : TypeId} {ts : List TypeId} (h : Blk w i cs t) (hb : base ≤ i) (ht : t ∈ ts) (j : Nat) (v : Value) : TM ts base w (w.setCell ⟨i, j, none⟩ v) :=
  TM.of (Mod.at1 (· = i) rfl j v) fun k _ e => by subst e; exact ⟨hb, isT.of_blk h ht⟩
set_option maxRecDepth 100000 in
set_option maxHeartbeats 400000 in
theorem jCreate1 (o : Bool) (m1 cb : Nat) (M : MV) (w : World) (h : SMap w m1 M) (hc : Blk w cb #[.string (nmOf o)] 9) :
    Calls Try.prog 61 #[.map (some m1), .pointer (some ⟨cb, 0, none⟩)] w fun e w' => (∃ v, e = .returned v) ∧ SMap w' m1 (putM M o (fp w.heap.size)) ∧ Blk w' w.heap.size #[.slice none 0 0, .slice none 0 0] 78 ∧ Mod (· = m1) w w' := by
  have ma : Mod (fun _ => False) w (w.alloc (.cells #[.slice none 0 0, .slice none 0 0] 78)) := (Mod.refl _ w).alloc _
  have hb1 : Blk (w.alloc (.cells #[.slice none 0 0, .slice none 0 0] 78)) w.heap.size _ 78 := Blk.new w _ _
  have hlt := h.lt
  obtain ⟨w2, hrun, h2, m2, z2⟩ := (h.mod ma (fun e => e)).put o (fp w.heap.size)
  have c0 := hc.cell 0
  have H2 := Lib.hid (And.intro h2 (And.intro (hb1.mod m2 (by omega)) ((ma.mono (S' := (· = m1)) (fun _ _ e => e.elim)).trans m2)))
  unfold fp at hrun
  obtain ⟨S, hS⟩ : ∃ S, S = nmOf o := ⟨_, rfl⟩
  rw [← hS] at hrun c0
  clear h hc ma hb1 hlt h2 m2 z2 hS
  go_enter Try.func61, Try.ntmps61
  go_wp2_with fail
  go_end0
  exact ⟨⟨_, rfl⟩, H2.out⟩
set_option maxRecDepth 100000 in
set_option maxHeartbeats 400000 in
theorem jRename1 (o p : Bool) (F m1 ob fb nb : Nat) (M : MV) (w : World) (h : SMap w m1 M) (h1 : Blk w ob #[.string (nmOf o)] 9) (h2 : Blk w fb #[fp F] 72) (h3 : Blk w nb #[.string (nmOf p)] 9) :
    Calls Try.prog 65 #[.map (some m1), .pointer (some ⟨ob, 0, none⟩), .pointer (some ⟨fb, 0, none⟩), .pointer (some ⟨nb, 0, none⟩)] w fun e w' => (∃ v, e = .returned v) ∧ SMap w' m1 (putM (delM M o) p (fp F)) ∧ Mod (· = m1) w w' := by
  have ne : ∀ {i : Nat} {cs : Array Value} {t : TypeId}, Blk w i cs t → i ≠ m1 := fun hb e => by
    obtain ⟨es, c, h4⟩ := h.isMap
    subst e
    rw [show w.heap[_]? = _ from hb] at h4
    cases h4
  obtain ⟨w2, hr2, g2, m2, z2⟩ := h.del o 0
  obtain ⟨w3, hr3, g3, m3, z3⟩ := g2.put p (fp F)
  have c0 := h1.cell 0
  have c1 := (h2.mod m2 (ne h2)).cell 0
  have c2 := (h3.mod m2 (ne h3)).cell 0
  have H3 := Lib.hid (And.intro g3 (m2.trans m3))
  unfold fp at hr3 c1
  obtain ⟨S, hS⟩ : ∃ S, S = nmOf o := ⟨_, rfl⟩
  obtain ⟨U, hU⟩ : ∃ U, U = nmOf p := ⟨_, rfl⟩
  rw [← hS] at hr2 c0
  rw [← hU] at hr3 c2
  clear h h1 h2 h3 ne g2 m2 z2 g3 m3 z3 hS hU
  go_enter Try.func65, Try.ntmps65
  go_wp2_with fail
  go_end0
  exact ⟨⟨_, rfl⟩, H3.out⟩
set_option maxRecDepth 100000 in
set_option maxHeartbeats 1000000 in
theorem jChange {base d R m : Nat} {w : World} {q : QF} {st wv : Value} {ms : List Nat} {ls : List LT3} (h : DK w base d R m q st ms wv ls) (fn : FuncId) (cs : Array Value) (P : QF → Prop) (eg : ∀ args w, (callFunc fn args).run Try.prog w = .ok (.enter fn args) w)
    (hdoes : ∀ w1 m1, SMap w1 m1 (mvq q) → TM [49] base w w1 → w.heap.size ≤ m1 → Calls Try.prog fn (#[.map (some m1)] ++ cs) w1 fun e w2 => (∃ v, e = .returned v) ∧ ∃ q', P q' ∧ SMap w2 m1 (mvq q') ∧ Mod (· = m1) w1 w2 ∧ (∀ o F, q' o = some F → FK w2 base F) ∧ (∀ F G, q' false = some F → q' true = some G → F.b ≠ G.b))
    (hms : ms.length ≤ 5) (hb : base ≤ w.heap.size) :
    Calls Try.prog 60 #[.pointer (some ⟨d, 0, none⟩), .func (.func fn) #[] cs] w fun e w' => (∃ v, e = .returned v) ∧ ∃ q' m' st', P q' ∧ DK w' base d R m' q' st' (ms ++ [m']) wv ls ∧ TM tD base w w' := by
  have c1 := h.hd.cell 1
  have HCL := Lib.hid (jClones h.hm)
  have HD := Lib.hid h
  have HDO := Lib.hid hdoes
  clear h hdoes
  go_enter Try.func60, Try.ntmps60
  go_wp2_with fail
  refine HCL.out.mono ?_; rintro e w1 ⟨rfl, s1, n1⟩
  have D1 := Lib.hid (HD.out.new n1)
  have x1 := D1.out.hd.frozen 1
  have y1 := D1.out.hd.cell 1
  have S1 := Lib.hid s1
  have N1 := Lib.hid n1
  obtain ⟨m1, hm1⟩ : ∃ m1, m1 = w.heap.size := ⟨_, rfl⟩
  rw [← hm1] at S1 ⊢
  have HM1 := Lib.hid hm1
  clear s1 n1 hm1 HCL
  have TA := TM.set (ts := [49]) D1.out.hd D1.out.bd (by simp) 1 (.map (some m1))
  have HTA := Lib.hid TA
  have HDA := Lib.hid (show Blk (w1.setCell ⟨d, 1, none⟩ (.map (some m1))) d #[.int .i64 R, .map (some m1), st, wv, .slice none 0 0, .bool false] 49 from by simpa using D1.out.hd.set 1 (.map (some m1)))
  have SA := Lib.hid (TA.smap S1.out)
  have TW := Lib.hid ((TM.new N1.out).trans (TA.more (ts' := tD) (by simp)))
  have HF := Lib.hid (HDO.out _ m1 SA.out ((TM.new N1.out).trans HTA.out) (by have := HM1.out; omega))
  clear TA HDO
  go_wp2_with fail
  refine HF.out.mono ?_; rintro e w2 ⟨⟨vv, rfl⟩, q', hP, s2, n2, hf2, hne2⟩
  have nc := SA.out.nc
  have D2 := Lib.hid (nc.blk n2 HDA.out)
  have ST2 := Lib.hid (nc.owns n2 (HTA.out.owns D1.out.hst (by simp)))
  have WV2 := Lib.hid (nc.owns n2 (HTA.out.owns D1.out.hwv (by simp)))
  have HP := Lib.hid hP
  have S2 := Lib.hid s2
  have F2 := Lib.hid hf2
  have N2 := Lib.hid hne2
  have hnew : Mod (fun _ => False) w1 w2 ∨ True := .inr trivial
  have TW2 : TM tD base w w2 := ⟨n2.os.trans TW.out.os, n2.tape.trans TW.out.tape, n2.output.trans TW.out.output, Nat.le_trans TW.out.size n2.size, fun i hi hs => (n2.block i (Nat.lt_of_lt_of_le hi TW.out.size) (fun e => by have := HM1.out; omega)).trans (TW.out.block i hi hs)⟩
  have HTW2 := Lib.hid TW2
  clear hP s2 n2 hf2 hne2 nc hnew TW2 HF TW SA HDA HTA D1 S1 N1 x1 y1 c1
  obtain ⟨sa, sc, hst, _⟩ := ST2.out.els
  subst hst
  have y1 := D2.out.cell 1
  have y2 := D2.out.cell 2
  have BD := Lib.hid HD.out.bd
  have hsz2 := HTW2.out.size
  have HB2 : Hid (base ≤ w2.heap.size) := Nat.le_trans hb hsz2
  have HMS := Lib.hid hms
  clear hsz2
  go_wp2_with fail
  refine wp_region2 [(4, 3), (9, 4)] [] (by kernel_rfl) (by kernel_rfl) ?_
  repeat (first | (refine reg_anyT (by rfl) (fun K hK => ?_); go_simp; refine hK _ _ ?_; clear hK K) | (refine reg_read (by rfl) (fun K hK => ?_); go_simp; refine hK _ _ ?_; clear hK K))
  refine reg_hold_v (by rfl) (by rfl) (.slice sa ms.length sc) (fun w' hw' => q_load _ _ _ rfl rfl Try.isAgg46 (hw'.cell y2)) ?_
  repeat (first | (refine reg_anyT (by rfl) (fun K hK => ?_); go_simp; refine hK _ _ ?_; clear hK K) | (refine reg_read (by rfl) (fun K hK => ?_); go_simp; refine hK _ _ ?_; clear hK K))
  refine reg_new (by rfl) (fun rn K hK => ?_); go_simp
  refine hK _ _ ⟨((Mod.refl (fun _ => False) (w2.drewN rn)).alloc (.cells #[.map (some m1)] 45)).ex, ?_⟩; clear hK K
  have ma : Mod (fun _ => False) w2 ((w2.drewN rn).alloc (.cells #[.map (some m1)] 45)) := ((Mod.refl _ w2).drewN rn).alloc _
  have oa := TM.owns (TM.new (ts := []) (base := 0) ma) ST2.out (by simp)
  refine reg_app (base := base) (by rfl) (by rfl) (.tmp 22) (.tmp 27) 46 45 1 rfl Try.underlying46 infoNm rfl (by decide) _ _ _ _ 1 [.map (some m1)] (Nat.le_trans HB2.out ma.size) oa rfl rfl (sl_new (w2.drewN rn) #[.map (some m1)] _) (by simp [Value.oneCell']) (by decide) (by have := HMS.out; omega) ?_
  intro v3 w3 o3 n3 a3
  refine ⟨fun _ => trivial, ?_⟩
  have T3 : TM [45] base w2 w3 := (TM.new ma).trans (TM.of n3 fun i _ hi => owns_isT oa (by simp) i hi)
  obtain ⟨b3, c3, rfl, _, _⟩ := o3.els
  have D3 := Lib.hid (T3.blk D2.out (by simp))
  have ST3 := Lib.hid o3
  have WV3 := Lib.hid (T3.owns WV2.out (by simp))
  have S3 := Lib.hid (T3.smap S2.out)
  have F3 := Lib.hid (fun o F e => (F2.out o F e).tm T3 (by simp) (by simp))
  have TW3 := Lib.hid (HTW2.out.trans (T3.more (ts' := tD) (by simp)))
  have z2 := D3.out.frozen 2
  have z3 := D3.out.cell 2
  clear ma oa o3 n3 a3 T3 y1 y2 D2 ST2 WV2 S2 F2 HTW2 
  repeat (first | (refine reg_anyT (by rfl) (fun K hK => ?_); go_simp; refine hK _ _ ?_; clear hK K) | (refine reg_read (by rfl) (fun K hK => ?_); go_simp; refine hK _ _ ?_; clear hK K))
  refine reg_eff (by rfl) (fun rn K hK => ?_); go_simp; refine hK _ _ ?_; clear hK K
  repeat (first | (refine reg_anyT (by rfl) (fun K hK => ?_); go_simp; refine hK _ _ ?_; clear hK K) | (refine reg_read (by rfl) (fun K hK => ?_); go_simp; refine hK _ _ ?_; clear hK K))
  refine reg_nil (fun nd => ?_)
  have md : Mod (fun _ => False) w3 (w3.drewN rn) := (Mod.refl _ w3).drewN rn
  have D3' : Blk (w3.drewN rn) d _ _ := D3.out
  have T4 := ((TM.new (ts := [49]) (base := base) md).trans (TM.set (ts := [49]) D3' BD.out (by simp) 2 (.slice b3 (ms.length + 1) c3))).trans (TM.new ((Mod.refl (fun _ => False) _).drewN nd))
  have D4 := Lib.hid (show Blk (((w3.drewN rn).setCell ⟨d, 2, none⟩ (.slice b3 (ms.length + 1) c3)).drewN nd) d #[.int .i64 R, .map (some m1), .slice b3 (ms.length + 1) c3, wv, .slice none 0 0, .bool false] 49 from D3'.set 2 (.slice b3 (ms.length + 1) c3))
  have R4 := Lib.hid (And.intro (TW3.out.trans (T4.more (ts' := tD) (by simp))) (And.intro (T4.owns ST3.out (by simp)) (And.intro (T4.owns WV3.out (by simp)) (And.intro (T4.smap S3.out) (fun o F e => (F3.out o F e).tm T4 (by simp) (by simp))))))
  generalize ((w3.drewN rn).setCell ⟨d, 2, none⟩ (.slice b3 (ms.length + 1) c3)).drewN nd = w4 at *
  clear md D3' T4 D3 ST3 WV3 S3 F3 TW3 z2 z3
  go_end0
  obtain ⟨r1, r2, r3, r4, r5⟩ := R4.out
  refine ⟨⟨_, rfl⟩, q', m1, _, HP.out, ⟨D4.out, r4, ?_, r3, r5, N2.out, BD.out, HD.out.rm⟩, r1⟩
  rw [List.length_append, List.map_append]
  exact r2
set_option maxRecDepth 100000 in
set_option maxHeartbeats 400000 in
theorem jRight1 (o : Bool) (w : World) : Calls Try.prog 53 #[.slice (some ⟨w.heap.size, 0, none⟩) 1 1] (w.alloc (.cells #[.string (nmOf o)] 9)) fun e w' => e = .returned (.bool true) ∧ Mod (fun _ => False) w w' :=
  (jRight _ [o] _ (sl_new w #[.string (nmOf o)] 9) (by simp)).mono fun e w' h => ⟨h.1, ((Mod.refl _ w).alloc _).trans h.2⟩
def putQ (q : QF) (o : Bool) (F : FileS) : QF := fun p => if p = o then some F else q p
def delQ (q : QF) (o : Bool) : QF := fun p => if p = o then none else q p
theorem mvq_put (q : QF) (o : Bool) (F : FileS) : putM (mvq q) o (fp F.b) = mvq (putQ q o F) := by
  funext p
  unfold putM mvq putQ
  by_cases e : p = o <;> simp [e]
theorem mvq_del (q : QF) (o : Bool) : delM (mvq q) o = mvq (delQ q o) := by
  funext p
  unfold delM mvq delQ
  by_cases e : p = o <;> simp [e]
set_option maxRecDepth 100000 in
set_option maxHeartbeats 1000000 in
/-- Create of a name that is not there. -/
theorem jCreate {base d R m : Nat} {w : World} {q : QF} {st wv : Value} {ms : List Nat} {ls : List LT3} (o : Bool) (h : DK w base d R m q st ms wv ls) (hq : q o = none) (hms : ms.length ≤ 5) (hb : base ≤ w.heap.size) :
    Calls Try.prog 35 #[.pointer (some ⟨d, 0, none⟩), .string (nmOf o)] w fun e w' => e = .returned (.int .i64 0) ∧ ∃ fb m' st', w.heap.size ≤ fb ∧ DK w' base d R m' (putQ q o ⟨fb, [], []⟩) st' (ms ++ [m']) wv ls ∧ TM tD base w w' := by
  have ma : Mod (fun _ => False) w (w.alloc (.cells #[.string (nmOf o)] 9)) := (Mod.refl _ w).alloc _
  have HMS := Lib.hid hms
  have HB := Lib.hid hb
  have HQ := Lib.hid hq
  obtain ⟨bx, hbx⟩ : ∃ bx, bx = w.heap.size := ⟨_, rfl⟩
  have HX : Hid (Blk (w.alloc (.cells #[.string (nmOf o)] 9)) bx #[.string (nmOf o)] 9) := by rw [hbx]; exact Blk.new w _ _
  have x0 : (w.alloc (.cells #[.string (nmOf o)] 9)).cell? ⟨bx, 0, none⟩ = some (.string (nmOf o)) := HX.out.cell 0
  have HD := Lib.hid (h.new ma)
  have HM := Lib.hid ma
  have HBX := Lib.hid hbx
  clear h ma hms hb hq
  have HRT : Hid (∀ w : World, Calls Try.prog 53 #[.slice (some ⟨w.heap.size, 0, none⟩) 1 1] (w.alloc (.cells #[.string (nmOf o)] 9)) fun e w' => e = .returned (.bool true) ∧ Mod (fun _ => False) w w') := fun w => jRight1 o w
  obtain ⟨S, hS⟩ : ∃ S, S = nmOf o := ⟨_, rfl⟩
  rw [← hS] at x0 HX HRT HD HM ⊢
  have HS := Lib.hid hS
  clear hS
  go_enter Try.func35, Try.ntmps35
  go_upto_region 1 with fail
  rw [← hbx]
  clear hbx
  generalize w.alloc (.cells #[.string S] 9) = w0 at *
  go_wp2_with fail
  refine (HRT.out w0).mono ?_; rintro e w1 ⟨rfl, n1⟩
  have D1 := Lib.hid (HD.out.new n1)
  have M1 := Lib.hid (HM.out.trans n1)
  have X1 := Lib.hid (HX.out.mod n1 (fun e => e))
  clear HD HM HX n1 x0 HRT
  go_wp2_with fail
  refine (jMeet d _ _ _ _ w1 D1.out.hd).mono ?_; rintro e w' ⟨rfl, rfl⟩
  have c1 := D1.out.hd.cell 1
  have x0 := X1.out.cell 0
  have hl : ∀ n, (Instr.lookup 45 (.map (some m)) (.string S) true).run Try.prog (w'.drewN n) = .ok (.tuple #[.pointer none, .bool false]) (w'.drewN n) := fun n => by
    have := (D1.out.drewN n).hm.lookOk o
    rw [mvq_none HQ.out, ← HS.out] at this
    exact this
  go_wp2_with fail
  go_quiet (fail)
  have D2 := Lib.hid (D1.out.drewN nq)
  have M2 := Lib.hid (M1.out.drewN nq)
  have X2 := Lib.hid (X1.out.mod ((Mod.refl (fun _ => False) _).drewN nq) (fun e => e))
  clear D1 M1 X1 c1 x0 hl
  generalize w'.drewN nq = w2 at *
  have c1 := D2.out.hd.cell 1
  have hlen := D2.out.hm.len 3
  have hcn : ¬ (200 : Int) ≤ cnt (mvq q) := by have := cnt_le (mvq q); omega
  obtain ⟨cn, hcc⟩ : ∃ x, x = cnt (mvq q) := ⟨_, rfl⟩
  rw [← hcc] at hlen hcn
  clear hcc
  have HC := Lib.hid (jChange (w := w2) D2.out 61 #[.pointer (some ⟨bx, 0, none⟩)] (fun q' => ∃ fb, w.heap.size ≤ fb ∧ q' = putQ q o ⟨fb, [], []⟩) (enters_of Try.func61 (by kernel_rfl) rfl) (fun w3 m3 s3 t3 z3 => by
    have hx3 := t3.blk X2.out (by simp)
    rw [HS.out] at hx3
    refine (jCreate1 o m3 bx (mvq q) w3 s3 hx3).mono ?_
    rintro e w4 ⟨h1, h2, h3, h4⟩
    have hge : base ≤ w3.heap.size := Nat.le_trans HB.out (Nat.le_trans M2.out.size t3.size)
    refine ⟨h1, putQ q o ⟨w3.heap.size, [], []⟩, ⟨_, Nat.le_trans M2.out.size t3.size, rfl⟩, ?_, h4, ?_, ?_⟩
    · rw [← mvq_put]; exact h2
    · intro p F hF
      unfold putQ at hF
      split at hF
      · cases hF
        exact ⟨⟨_, _, h3, World.ownsRow_nil _ _ _ _, World.ownsRow_nil _ _ _ _⟩, hge, by simp⟩
      · exact ((D2.out.hf p F hF).tm t3 (by simp) (by simp)).nc s3.nc h4
    · have hlt : ∀ p F, q p = some F → F.b < w3.heap.size := fun p F e => by
        obtain ⟨nv, sv, hb, _⟩ := ((D2.out.hf p F e).tm t3 (by simp) (by simp)).k
        exact hb.lt
      intro F G hF hG
      unfold putQ at hF hG
      cases o with
      | false =>
        simp at hF hG
        subst hF
        have := hlt true G hG
        show w3.heap.size ≠ G.b
        omega
      | true =>
        simp at hF hG
        subst hG
        have := hlt false F hF
        show F.b ≠ w3.heap.size
        omega) HMS.out (Nat.le_trans HB.out M2.out.size))
  go_wp2_with fail
  refine HC.out.mono ?_; rintro e w3 ⟨⟨vv, rfl⟩, q', m', st', ⟨fb, hfb, rfl⟩, D3, T3⟩
  have R3 := Lib.hid (And.intro D3 ((TM.new M2.out).trans T3))
  clear D3 T3
  go_wp2_with fail
  go_ret
  exact ⟨rfl, fb, m', st', hfb, R3.out⟩
end Go.Proofs.Ytdlplablojdjlaa
