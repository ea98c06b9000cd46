/- Package files: Rename, SyncNames, New; no condition. -/
import Derived.Test.YtdlplablojdjlaaJh
import Derived.Test.YtdlplablojdjlaaTree
namespace Go.Proofs.Ytdlplablojdjlaa
open Go Go.RowKit Go.IntWalk

set_option maxRecDepth 100000 in
set_option maxHeartbeats 400000 in
theorem jSyncNames {base d R m : Nat} {w : World} {q : QF} {st wv : Value} {ms : List Nat} {ls : List LT3} (h : DK w base d R m q st ms wv ls) (hb : base ≤ w.heap.size) :
    Calls Try.prog 49 #[.pointer (some ⟨d, 0, none⟩)] w fun e w' => e = .returned (.int .i64 0) ∧ ∃ st', DK w' base d R m q st' [m] wv ls ∧ TM tD base w w' := by
  have HM := Lib.hid (jMeet d _ _ _ _ w h.hd)
  have c1 := h.hd.cell 1
  have c2 := h.hd.cell 2
  have f2 := h.hd.frozen 2
  have T := TM.set (ts := [49]) h.hd h.bd (by simp) 2 (.slice (some ⟨w.heap.size, 0, none⟩) 1 1)
  have D1 : Blk (w.setCell ⟨d, 2, none⟩ (.slice (some ⟨w.heap.size, 0, none⟩) 1 1)) d _ _ := h.hd.set 2 _
  have hz : (w.setCell ⟨d, 2, none⟩ (.slice (some ⟨w.heap.size, 0, none⟩) 1 1)).heap.size = w.heap.size := by simp [World.setCell]
  obtain ⟨w1, hw1⟩ : ∃ w1, w1 = w.setCell ⟨d, 2, none⟩ (.slice (some ⟨w.heap.size, 0, none⟩) 1 1) := ⟨_, rfl⟩
  rw [← hw1] at T D1 hz
  have hs1 : SMap w1 m (mvq q) := T.smap h.hm
  have hwv := T.owns h.hwv (by simp)
  have hfk := fun o F e => (h.hf o F e).tm T (by simp) (by simp)
  have ma : Mod (fun _ => False) w1 (w1.alloc (.cells #[.map (some m)] 45)) := (Mod.refl _ w1).alloc _
  have hown : (w1.alloc (.cells #[.map (some m)] 45)).ownsRow base 45 1 (.slice (some ⟨w.heap.size, 0, none⟩) 1 1) [m].length ([m].map fun m => .map (some m)) := by
    refine ⟨by simp, .inr ⟨w.heap.size, 1, #[.map (some m)], rfl, hb, (by rw [← hz]; exact heap_alloc_new w1 _), Nat.le_refl _, ?_, by simp, by simp⟩⟩
    unfold maxLen; simp
  have TN : TM [] 0 w1 _ := TM.new ma
  have HR : Hid (DK (w1.alloc (.cells #[.map (some m)] 45)) base d R m q (.slice (some ⟨w.heap.size, 0, none⟩) 1 1) [m] wv ls ∧ TM tD base w (w1.alloc (.cells #[.map (some m)] 45))) :=
    ⟨⟨TN.blk D1 (by simp), TN.smap hs1, hown, TN.owns hwv (by simp), fun o F e => (hfk o F e).tm TN (by simp) (by simp), h.ne, h.bd, h.rm⟩, (T.more (by simp)).trans (TM.new ma)⟩
  rw [hw1] at HR
  clear TN hown ma hfk hwv hs1 hz hw1 D1 T
  have hd2 := h.hd.lt
  clear h hb
  go_enter Try.func49, Try.ntmps49
  go_wp2_with fail
  refine HM.out.mono ?_; rintro e w' ⟨rfl, rfl⟩
  go_wp2_with fail
  go_ret
  exact ⟨rfl, _, HR.out⟩
/-- Behind a renaming of the new file: it has the other name. -/
def qNew (G : FileS) : QF := fun p => if p = false then some G else none
theorem put_del_new (q : QF) (G : FileS) : putQ (delQ q true) false G = qNew G := by
  funext p
  unfold putQ delQ qNew
  cases p <;> simp
/-- What stays while the arguments of a renaming are looked at. -/
structure RN (w : World) (base d R m : Nat) (q : QF) (st : Value) (ms : List Nat) (wv : Value) (ls : List LT3) (bx bu : Nat) (S U : ByteArray) (w' : World) : Prop where
  dk : DK w' base d R m q st ms wv ls
  md : Mod (fun _ => False) w w'
  x : Blk w' bx #[.string S] 9
  u : Blk w' bu #[.string U] 9
theorem RN.new {w : World} {base d R m : Nat} {q : QF} {st : Value} {ms : List Nat} {wv : Value} {ls : List LT3} {bx bu : Nat} {S U : ByteArray} {w' w'' : World} (h : RN w base d R m q st ms wv ls bx bu S U w') (hm : Mod (fun _ => False) w' w'') : RN w base d R m q st ms wv ls bx bu S U w'' :=
  ⟨h.dk.new hm, h.md.trans hm, h.x.mod hm (fun e => e), h.u.mod hm (fun e => e)⟩
theorem sl_two (w : World) (S U : ByteArray) : Sl (w.alloc (.cells #[.string S, .string U] 9)) (.slice (some ⟨w.heap.size, 0, none⟩) 2 2) 1 2 [.string S, .string U] := by
  refine .inr ⟨_, _, rfl, rfl, fun j u hj => ?_⟩
  rw [add_g]
  exact ((Blk.new w _ 9).cell j).trans (by simpa using hj)
theorem RN.store {w : World} {base d R m : Nat} {q : QF} {st : Value} {ms : List Nat} {wv : Value} {ls : List LT3} {bx bu : Nat} {S U : ByteArray} {w' : World} (h : RN w base d R m q st ms wv ls bx bu S U w') {fb : Nat} {u : Value} (hb : Blk w' fb #[u] 72 ∧ w.heap.size ≤ fb) (rn nd : Nat) (v : Value) :
    Blk (((w'.drewN rn).setCell ⟨fb, 0, none⟩ v).drewN nd) fb #[v] 72 ∧ RN w base d R m q st ms wv ls bx bu S U (((w'.drewN rn).setCell ⟨fb, 0, none⟩ v).drewN nd) := by
  have b1 : Blk (w'.drewN rn) fb #[u] _ := hb.1
  have T := ((TM.new (ts := [72]) (base := 0) ((Mod.refl (fun _ => False) w').drewN rn)).trans (TM.set (ts := [72]) b1 (Nat.zero_le _) (by simp) 0 v)).trans (TM.new ((Mod.refl (fun _ => False) _).drewN nd))
  refine ⟨b1.set 0 v, h.dk.tm T (by simp) (by simp), ?_, T.blk h.x (by simp), T.blk h.u (by simp)⟩
  exact ((h.md.drewN rn).new (Mod.at1 (· = fb) rfl 0 v) (fun i e => by have := hb.2; omega)).drewN nd
set_option maxRecDepth 100000 in
set_option maxHeartbeats 4000000 in
theorem jRename {base d R m : Nat} {w : World} {q : QF} {st wv : Value} {ms : List Nat} {ls : List LT3} (G : FileS) (h : DK w base d R m q st ms wv ls) (hq : q true = some G) (hms : ms.length ≤ 5) (hb : base ≤ w.heap.size) :
    Calls Try.prog 48 #[.pointer (some ⟨d, 0, none⟩), .string (nmOf true), .string (nmOf false)] w fun e w' => e = .returned (.int .i64 0) ∧ ∃ m' st', DK w' base d R m' (qNew G) st' (ms ++ [m']) wv ls ∧ TM tD base w w' := by
  have HMS := Lib.hid hms
  have HB := Lib.hid hb
  have HQ := Lib.hid hq
  have HRT : Hid (∀ (w : World) (v : Value), Sl w v 1 2 [.string (nmOf true), .string (nmOf false)] → Calls Try.prog 53 #[v] w fun e w' => e = .returned (.bool true) ∧ Mod (fun _ => False) w w') := fun w v hs => jRight v [true, false] w hs (by simp)
  have ma := ((Mod.refl (fun _ => False) w).alloc (.cells #[.string (nmOf true)] 9))
  have HX := Lib.hid ((Blk.new w #[.string (nmOf true)] 9).alloc (.cells #[.string (nmOf false)] 9))
  have HY := Lib.hid (Blk.new (w.alloc (.cells #[.string (nmOf true)] 9)) #[.string (nmOf false)] 9)
  have HM := Lib.hid (ma.alloc (.cells #[.string (nmOf false)] 9))
  have HD := Lib.hid (h.new HM.out)
  have HJF : Hid (∀ w' : World, DK w' base d R m q st ms wv ls → Calls Try.prog 52 #[.pointer (some ⟨d, 0, none⟩), .string (nmOf true), .bool true] w' fun e w'' => e = .returned (.tuple #[.pointer (some ⟨G.b, 0, none⟩), .int .i64 0]) ∧ w'' = w') := fun w' h' => jFind true G h' hq
  obtain ⟨S, hS⟩ : ∃ S, S = nmOf true := ⟨_, rfl⟩
  obtain ⟨U, hU⟩ : ∃ S, S = nmOf false := ⟨_, rfl⟩
  rw [← hS, ← hU] at HX HY HRT HD HM ⊢
  rw [← hS] at HJF
  have HS := Lib.hid hS
  have HU := Lib.hid hU
  obtain ⟨bx, hbx⟩ : ∃ bx, bx = w.heap.size := ⟨_, rfl⟩
  obtain ⟨bu, hbu⟩ : ∃ bx, bx = (w.alloc (.cells #[.string S] 9)).heap.size := ⟨_, rfl⟩
  have hbu2 : bu = w.heap.size + 1 := by rw [hbu]; simp
  rw [← hbu] at HY
  rw [← hbx] at HX hbu2
  clear h ma hms hb hq hS hU hbu
  go_enter Try.func48, Try.ntmps48
  go_upto_region 1 with fail
  rw [← hbx, ← hbu2]
  clear hbx hbu2
  generalize (w.alloc (.cells #[.string S] 9)).alloc (.cells #[.string U] 9) = w0 at *
  have HRN : Hid (RN w base d R m q st ms wv ls bx bu S U w0) := ⟨HD.out, HM.out, HX.out, HY.out⟩
  clear HD HM HX HY
  go_cut [7, 8] from 7 to 18 (fun p v wx => ∃ fb, p = .pointer (some ⟨fb, 0, none⟩) ∧ v = .int .i64 0 ∧ Hid (Blk wx fb #[fp G.b] 72) ∧ Hid (RN w base d R m q st ms wv ls bx bu S U wx))
  case first =>
    have x0 := HRN.out.x.cell 0
    have y0 := HRN.out.u.cell 0
    refine wp_regionT (.seq [0, 1, 2, 3] [(1, 3), (2, 3), (3, 3)] (.fork 10 [4, 5, 6, 7, 8, 9, 11, 12] [(0, 4), (1, 4), (2, 4)] .done 4 [] [(0, 4)] (.fork 10 [5, 6, 7, 8, 9, 11, 12] [(0, 4), (1, 4)] .done 5 [] [(0, 4)] (.fork 10 [6, 7, 8, 9, 11, 12] [(0, 4)] .done 6 [7, 8, 9, 10, 11, 12] [(4, 4)] .done)))) [(1, 3), (2, 3), (3, 3), (4, 4), (5, 4), (10, 4)] [] (by kernel_rfl) (by kernel_rfl) ?_
    refine wpT_seq (by simp only [List.filterMap_cons, List.filterMap_nil, List.getElem?_cons_zero, List.getElem?_cons_succ]; exact rfl) ?_
    repeat (first | (refine reg_anyT (by rfl) (fun K hK => ?_); go_simp; refine hK _ _ ?_; clear hK K) | (refine reg_read (by rfl) (fun K hK => ?_); go_simp; refine hK _ _ ?_; clear hK K))
    refine reg_hold_v (by rfl) (by rfl) (.string S) (fun w' hw' => q_load _ _ _ rfl rfl Try.isAgg9 (hw'.cell x0)) ?_
    repeat (first | (refine reg_anyT (by rfl) (fun K hK => ?_); go_simp; refine hK _ _ ?_; clear hK K) | (refine reg_read (by rfl) (fun K hK => ?_); go_simp; refine hK _ _ ?_; clear hK K))
    refine reg_hold_v (by rfl) (by rfl) (.string S) (fun w' hw' => q_load _ _ _ rfl rfl Try.isAgg9 (hw'.cell x0)) ?_
    repeat (first | (refine reg_anyT (by rfl) (fun K hK => ?_); go_simp; refine hK _ _ ?_; clear hK K) | (refine reg_read (by rfl) (fun K hK => ?_); go_simp; refine hK _ _ ?_; clear hK K))
    refine reg_hold_v (by rfl) (by rfl) (.string U) (fun w' hw' => q_load _ _ _ rfl rfl Try.isAgg9 (hw'.cell y0)) ?_
    repeat (first | (refine reg_anyT (by rfl) (fun K hK => ?_); go_simp; refine hK _ _ ?_; clear hK K) | (refine reg_read (by rfl) (fun K hK => ?_); go_simp; refine hK _ _ ?_; clear hK K))
    refine reg_nilT ?_
    refine wpT_fork (by simp only [List.filterMap_cons, List.filterMap_nil, List.getElem?_cons_zero, List.getElem?_cons_succ]; exact rfl) (by simp only [List.filterMap_cons, List.filterMap_nil, List.getElem?_cons_zero, List.getElem?_cons_succ]; exact rfl) ?_ ?_
    · repeat (first | (refine reg_anyT (by rfl) (fun K hK => ?_); go_simp; refine hK _ _ ?_; clear hK K) | (refine reg_read (by rfl) (fun K hK => ?_); go_simp; refine hK _ _ ?_; clear hK K))
      refine reg_new (by rfl) (fun rn K hK => ?_); go_simp
      have ma := ((Mod.refl (fun _ => False) w0).drewN rn).alloc (.cells #[.pointer none] 72)
      refine hK _ _ ⟨((Mod.refl (fun _ => False) (World.drewN w0 rn)).alloc (.cells #[.pointer none] 72)).ex, ?_⟩; clear hK K
      have RA := Lib.hid (HRN.out.new ma)
      have BA := Lib.hid (show Blk ((World.drewN w0 rn).alloc (.cells #[.pointer none] 72)) w0.heap.size #[.pointer none] 72 ∧ w.heap.size ≤ w0.heap.size from ⟨Blk.new (World.drewN w0 rn) _ _, HRN.out.md.size⟩)
      obtain ⟨fb, hfb⟩ : ∃ fb, fb = w0.heap.size := ⟨_, rfl⟩
      have SA := Lib.hid (And.intro trivial (fun v (h : Sl w0 v 1 2 [.string S, .string U]) => h.mod ma (fun _ _ _ _ h => h)))
      rw [← hfb] at BA ⊢
      clear hfb ma HRN
      generalize (World.drewN w0 rn).alloc (.cells #[.pointer none] 72) = wa at *
      repeat (first | (refine reg_anyT (by rfl) (fun K hK => ?_); go_simp; refine hK _ _ ?_; clear hK K) | (refine reg_read (by rfl) (fun K hK => ?_); go_simp; refine hK _ _ ?_; clear hK K))
      refine reg_new (by rfl) (fun rn K hK => ?_); go_simp
      have mb := ((Mod.refl (fun _ => False) wa).drewN rn).alloc (.cells #[.string S, .string U] 9)
      refine hK _ _ ⟨((Mod.refl (fun _ => False) (World.drewN wa rn)).alloc (.cells #[.string S, .string U] 9)).ex, ?_⟩; clear hK K
      have RB := Lib.hid (RA.out.new mb)
      have SB := Lib.hid (show Sl ((World.drewN wa rn).alloc (.cells #[.string S, .string U] 9)) (.slice (some ⟨wa.heap.size, 0, none⟩) 2 2) 1 2 [.string S, .string U] from sl_two (World.drewN wa rn) S U)
      have CB := Lib.hid (fun fb (h : Blk wa fb #[.pointer none] 72 ∧ w.heap.size ≤ fb) => And.intro (h.1.mod mb (fun h => h)) h.2)
      obtain ⟨sb, hsb⟩ : ∃ sb, sb = wa.heap.size := ⟨_, rfl⟩
      rw [← hsb] at SB ⊢
      clear hsb mb RA
      generalize (World.drewN wa rn).alloc (.cells #[.string S, .string U] 9) = wb at *
      repeat (first | (refine reg_anyT (by rfl) (fun K hK => ?_); go_simp; refine hK _ _ ?_; clear hK K) | (refine reg_read (by rfl) (fun K hK => ?_); go_simp; refine hK _ _ ?_; clear hK K))
      have BB := Lib.hid (CB.out _ BA.out)
      clear CB BA SA
      refine reg_new (by rfl) (fun rn K hK => ?_); go_simp
      refine (HRT.out _ _ (SB.out.drewN rn)).mono ?_; rintro e wr ⟨rfl, mr⟩
      refine hK _ _ ⟨mr.ex, ?_⟩; clear hK K
      repeat (first | (refine reg_anyT (by rfl) (fun K hK => ?_); go_simp; refine hK _ _ ?_; clear hK K) | (refine reg_read (by rfl) (fun K hK => ?_); go_simp; refine hK _ _ ?_; clear hK K))
      have RR := Lib.hid (RB.out.new mr.undrew)
      have CR := Lib.hid (fun fb (h : Blk wb fb #[.pointer none] 72 ∧ w.heap.size ≤ fb) => And.intro (h.1.mod mr.undrew (fun h => h)) h.2)
      clear mr
      have BR := Lib.hid (CR.out _ BB.out)
      clear CR BB SB
      refine reg_eff (by rfl) (fun rn K hK => ?_); go_simp
      refine (HJF.out _ (RR.out.dk.drewN rn)).mono ?_; rintro e wf ⟨rfl, hwf⟩
      refine hK _ _ ?_; clear hK K
      have mf : Mod (fun _ => False) wr wf := by rw [hwf]; exact (Mod.refl _ wr).drewN rn
      have RF := Lib.hid (RR.out.new mf)
      have CF := Lib.hid (fun fb (h : Blk wr fb #[.pointer none] 72 ∧ w.heap.size ≤ fb) => And.intro (h.1.mod mf (fun h => h)) h.2)
      clear mf hwf RR
      repeat (first | (refine reg_anyT (by rfl) (fun K hK => ?_); go_simp; refine hK _ _ ?_; clear hK K) | (refine reg_read (by rfl) (fun K hK => ?_); go_simp; refine hK _ _ ?_; clear hK K))
      have BF := Lib.hid (CF.out _ BR.out)
      clear CF BR
      have b0 := BF.out.1.cell 0
      have b1 := BF.out.1.frozen 0
      repeat (first | (refine reg_anyT (by rfl) (fun K hK => ?_); go_simp; refine hK _ _ ?_; clear hK K) | (refine reg_read (by rfl) (fun K hK => ?_); go_simp; refine hK _ _ ?_; clear hK K))
      refine reg_eff (by rfl) (fun rn K hK => ?_); go_simp; refine hK _ _ ?_; clear hK K
      repeat (first | (refine reg_anyT (by rfl) (fun K hK => ?_); go_simp; refine hK _ _ ?_; clear hK K) | (refine reg_read (by rfl) (fun K hK => ?_); go_simp; refine hK _ _ ?_; clear hK K))
      refine reg_nilT ?_
      refine wpT_done (fun nd => ?_)
      have HE := Lib.hid (RF.out.store BF.out rn nd (.pointer (some ⟨G.b, 0, none⟩)))
      clear b0 b1
      generalize World.drewN (World.setCell (World.drewN wf rn) ⟨fb, 0, none⟩ (.pointer (some ⟨G.b, 0, none⟩))) nd = we at *
      go_wp2_with fail
      go_meet
      exact ⟨fb, rfl, rfl, HE.out.1, HE.out.2⟩
    · repeat (first | (refine reg_anyT (by rfl) (fun K hK => ?_); go_simp; refine hK _ _ ?_; clear hK K) | (refine reg_read (by rfl) (fun K hK => ?_); go_simp; refine hK _ _ ?_; clear hK K))
      refine reg_new (by rfl) (fun rn K hK => ?_); go_simp
      have mb := ((Mod.refl (fun _ => False) w0).drewN rn).alloc (.cells #[.string S, .string U] 9)
      refine hK _ _ ⟨((Mod.refl (fun _ => False) (World.drewN w0 rn)).alloc (.cells #[.string S, .string U] 9)).ex, ?_⟩; clear hK K
      have RB := Lib.hid (HRN.out.new mb)
      have SB := Lib.hid (show Sl ((World.drewN w0 rn).alloc (.cells #[.string S, .string U] 9)) (.slice (some ⟨w0.heap.size, 0, none⟩) 2 2) 1 2 [.string S, .string U] from sl_two (World.drewN w0 rn) S U)
      have CB := Lib.hid (fun fb (h : Blk w0 fb #[.pointer none] 72 ∧ w.heap.size ≤ fb) => And.intro (h.1.mod mb (fun h => h)) h.2)
      obtain ⟨sb, hsb⟩ : ∃ sb, sb = w0.heap.size := ⟨_, rfl⟩
      rw [← hsb] at SB ⊢
      clear hsb mb HRN
      generalize (World.drewN w0 rn).alloc (.cells #[.string S, .string U] 9) = wb at *
      repeat (first | (refine reg_anyT (by rfl) (fun K hK => ?_); go_simp; refine hK _ _ ?_; clear hK K) | (refine reg_read (by rfl) (fun K hK => ?_); go_simp; refine hK _ _ ?_; clear hK K))
      clear CB
      refine reg_nilT ?_
      refine wpT_fork (by simp only [List.filterMap_cons, List.filterMap_nil, List.getElem?_cons_zero, List.getElem?_cons_succ]; exact rfl) (by simp only [List.filterMap_cons, List.filterMap_nil, List.getElem?_cons_zero, List.getElem?_cons_succ]; exact rfl) ?_ ?_
      · repeat (first | (refine reg_anyT (by rfl) (fun K hK => ?_); go_simp; refine hK _ _ ?_; clear hK K) | (refine reg_read (by rfl) (fun K hK => ?_); go_simp; refine hK _ _ ?_; clear hK K))
        refine reg_new (by rfl) (fun rn K hK => ?_); go_simp
        have ma := ((Mod.refl (fun _ => False) wb).drewN rn).alloc (.cells #[.pointer none] 72)
        refine hK _ _ ⟨((Mod.refl (fun _ => False) (World.drewN wb rn)).alloc (.cells #[.pointer none] 72)).ex, ?_⟩; clear hK K
        have RA := Lib.hid (RB.out.new ma)
        have BA := Lib.hid (show Blk ((World.drewN wb rn).alloc (.cells #[.pointer none] 72)) wb.heap.size #[.pointer none] 72 ∧ w.heap.size ≤ wb.heap.size from ⟨Blk.new (World.drewN wb rn) _ _, RB.out.md.size⟩)
        obtain ⟨fb, hfb⟩ : ∃ fb, fb = wb.heap.size := ⟨_, rfl⟩
        have SA := Lib.hid (And.intro trivial (fun v (h : Sl wb v 1 2 [.string S, .string U]) => h.mod ma (fun _ _ _ _ h => h)))
        rw [← hfb] at BA ⊢
        clear hfb ma RB
        generalize (World.drewN wb rn).alloc (.cells #[.pointer none] 72) = wa at *
        repeat (first | (refine reg_anyT (by rfl) (fun K hK => ?_); go_simp; refine hK _ _ ?_; clear hK K) | (refine reg_read (by rfl) (fun K hK => ?_); go_simp; refine hK _ _ ?_; clear hK K))
        have SC := Lib.hid (SA.out.2 _ SB.out)
        clear SA SB
        refine reg_new (by rfl) (fun rn K hK => ?_); go_simp
        refine (HRT.out _ _ (SC.out.drewN rn)).mono ?_; rintro e wr ⟨rfl, mr⟩
        refine hK _ _ ⟨mr.ex, ?_⟩; clear hK K
        repeat (first | (refine reg_anyT (by rfl) (fun K hK => ?_); go_simp; refine hK _ _ ?_; clear hK K) | (refine reg_read (by rfl) (fun K hK => ?_); go_simp; refine hK _ _ ?_; clear hK K))
        have RR := Lib.hid (RA.out.new mr.undrew)
        have CR := Lib.hid (fun fb (h : Blk wa fb #[.pointer none] 72 ∧ w.heap.size ≤ fb) => And.intro (h.1.mod mr.undrew (fun h => h)) h.2)
        clear mr
        have BR := Lib.hid (CR.out _ BA.out)
        clear CR BA SC
        refine reg_eff (by rfl) (fun rn K hK => ?_); go_simp
        refine (HJF.out _ (RR.out.dk.drewN rn)).mono ?_; rintro e wf ⟨rfl, hwf⟩
        refine hK _ _ ?_; clear hK K
        have mf : Mod (fun _ => False) wr wf := by rw [hwf]; exact (Mod.refl _ wr).drewN rn
        have RF := Lib.hid (RR.out.new mf)
        have CF := Lib.hid (fun fb (h : Blk wr fb #[.pointer none] 72 ∧ w.heap.size ≤ fb) => And.intro (h.1.mod mf (fun h => h)) h.2)
        clear mf hwf RR
        repeat (first | (refine reg_anyT (by rfl) (fun K hK => ?_); go_simp; refine hK _ _ ?_; clear hK K) | (refine reg_read (by rfl) (fun K hK => ?_); go_simp; refine hK _ _ ?_; clear hK K))
        have BF := Lib.hid (CF.out _ BR.out)
        clear CF BR
        have b0 := BF.out.1.cell 0
        have b1 := BF.out.1.frozen 0
        repeat (first | (refine reg_anyT (by rfl) (fun K hK => ?_); go_simp; refine hK _ _ ?_; clear hK K) | (refine reg_read (by rfl) (fun K hK => ?_); go_simp; refine hK _ _ ?_; clear hK K))
        refine reg_eff (by rfl) (fun rn K hK => ?_); go_simp; refine hK _ _ ?_; clear hK K
        repeat (first | (refine reg_anyT (by rfl) (fun K hK => ?_); go_simp; refine hK _ _ ?_; clear hK K) | (refine reg_read (by rfl) (fun K hK => ?_); go_simp; refine hK _ _ ?_; clear hK K))
        refine reg_nilT ?_
        refine wpT_done (fun nd => ?_)
        have HE := Lib.hid (RF.out.store BF.out rn nd (.pointer (some ⟨G.b, 0, none⟩)))
        clear b0 b1
        generalize World.drewN (World.setCell (World.drewN wf rn) ⟨fb, 0, none⟩ (.pointer (some ⟨G.b, 0, none⟩))) nd = we at *
        go_wp2_with fail
        go_meet
        exact ⟨fb, rfl, rfl, HE.out.1, HE.out.2⟩
      · repeat (first | (refine reg_anyT (by rfl) (fun K hK => ?_); go_simp; refine hK _ _ ?_; clear hK K) | (refine reg_read (by rfl) (fun K hK => ?_); go_simp; refine hK _ _ ?_; clear hK K))
        refine reg_new (by rfl) (fun rn K hK => ?_); go_simp
        refine (HRT.out _ _ (SB.out.drewN rn)).mono ?_; rintro e wr ⟨rfl, mr⟩
        refine hK _ _ ⟨mr.ex, ?_⟩; clear hK K
        repeat (first | (refine reg_anyT (by rfl) (fun K hK => ?_); go_simp; refine hK _ _ ?_; clear hK K) | (refine reg_read (by rfl) (fun K hK => ?_); go_simp; refine hK _ _ ?_; clear hK K))
        have RR := Lib.hid (RB.out.new mr.undrew)
        have CR := Lib.hid (fun fb (h : Blk wb fb #[.pointer none] 72 ∧ w.heap.size ≤ fb) => And.intro (h.1.mod mr.undrew (fun h => h)) h.2)
        clear mr
        clear CR SB
        refine reg_nilT ?_
        refine wpT_fork (by simp only [List.filterMap_cons, List.filterMap_nil, List.getElem?_cons_zero, List.getElem?_cons_succ]; exact rfl) (by simp only [List.filterMap_cons, List.filterMap_nil, List.getElem?_cons_zero, List.getElem?_cons_succ]; exact rfl) ?_ ?_
        · repeat (first | (refine reg_anyT (by rfl) (fun K hK => ?_); go_simp; refine hK _ _ ?_; clear hK K) | (refine reg_read (by rfl) (fun K hK => ?_); go_simp; refine hK _ _ ?_; clear hK K))
          refine reg_new (by rfl) (fun rn K hK => ?_); go_simp
          have ma := ((Mod.refl (fun _ => False) wr).drewN rn).alloc (.cells #[.pointer none] 72)
          refine hK _ _ ⟨((Mod.refl (fun _ => False) (World.drewN wr rn)).alloc (.cells #[.pointer none] 72)).ex, ?_⟩; clear hK K
          have RA := Lib.hid (RR.out.new ma)
          have BA := Lib.hid (show Blk ((World.drewN wr rn).alloc (.cells #[.pointer none] 72)) wr.heap.size #[.pointer none] 72 ∧ w.heap.size ≤ wr.heap.size from ⟨Blk.new (World.drewN wr rn) _ _, RR.out.md.size⟩)
          obtain ⟨fb, hfb⟩ : ∃ fb, fb = wr.heap.size := ⟨_, rfl⟩
          have SA := Lib.hid (And.intro trivial (fun v (h : Sl wr v 1 2 [.string S, .string U]) => h.mod ma (fun _ _ _ _ h => h)))
          rw [← hfb] at BA ⊢
          clear hfb ma RR
          generalize (World.drewN wr rn).alloc (.cells #[.pointer none] 72) = wa at *
          repeat (first | (refine reg_anyT (by rfl) (fun K hK => ?_); go_simp; refine hK _ _ ?_; clear hK K) | (refine reg_read (by rfl) (fun K hK => ?_); go_simp; refine hK _ _ ?_; clear hK K))
          clear SA
          refine reg_eff (by rfl) (fun rn K hK => ?_); go_simp
          refine (HJF.out _ (RA.out.dk.drewN rn)).mono ?_; rintro e wf ⟨rfl, hwf⟩
          refine hK _ _ ?_; clear hK K
          have mf : Mod (fun _ => False) wa wf := by rw [hwf]; exact (Mod.refl _ wa).drewN rn
          have RF := Lib.hid (RA.out.new mf)
          have CF := Lib.hid (fun fb (h : Blk wa fb #[.pointer none] 72 ∧ w.heap.size ≤ fb) => And.intro (h.1.mod mf (fun h => h)) h.2)
          clear mf hwf RA
          repeat (first | (refine reg_anyT (by rfl) (fun K hK => ?_); go_simp; refine hK _ _ ?_; clear hK K) | (refine reg_read (by rfl) (fun K hK => ?_); go_simp; refine hK _ _ ?_; clear hK K))
          have BF := Lib.hid (CF.out _ BA.out)
          clear CF BA
          have b0 := BF.out.1.cell 0
          have b1 := BF.out.1.frozen 0
          repeat (first | (refine reg_anyT (by rfl) (fun K hK => ?_); go_simp; refine hK _ _ ?_; clear hK K) | (refine reg_read (by rfl) (fun K hK => ?_); go_simp; refine hK _ _ ?_; clear hK K))
          refine reg_eff (by rfl) (fun rn K hK => ?_); go_simp; refine hK _ _ ?_; clear hK K
          repeat (first | (refine reg_anyT (by rfl) (fun K hK => ?_); go_simp; refine hK _ _ ?_; clear hK K) | (refine reg_read (by rfl) (fun K hK => ?_); go_simp; refine hK _ _ ?_; clear hK K))
          refine reg_nilT ?_
          refine wpT_done (fun nd => ?_)
          have HE := Lib.hid (RF.out.store BF.out rn nd (.pointer (some ⟨G.b, 0, none⟩)))
          clear b0 b1
          generalize World.drewN (World.setCell (World.drewN wf rn) ⟨fb, 0, none⟩ (.pointer (some ⟨G.b, 0, none⟩))) nd = we at *
          go_wp2_with fail
          go_meet
          exact ⟨fb, rfl, rfl, HE.out.1, HE.out.2⟩
        · repeat (first | (refine reg_anyT (by rfl) (fun K hK => ?_); go_simp; refine hK _ _ ?_; clear hK K) | (refine reg_read (by rfl) (fun K hK => ?_); go_simp; refine hK _ _ ?_; clear hK K))
          refine reg_eff (by rfl) (fun rn K hK => ?_); go_simp
          refine (HJF.out _ (RR.out.dk.drewN rn)).mono ?_; rintro e wf ⟨rfl, hwf⟩
          refine hK _ _ ?_; clear hK K
          have mf : Mod (fun _ => False) wr wf := by rw [hwf]; exact (Mod.refl _ wr).drewN rn
          have RF := Lib.hid (RR.out.new mf)
          have CF := Lib.hid (fun fb (h : Blk wr fb #[.pointer none] 72 ∧ w.heap.size ≤ fb) => And.intro (h.1.mod mf (fun h => h)) h.2)
          clear mf hwf RR
          repeat (first | (refine reg_anyT (by rfl) (fun K hK => ?_); go_simp; refine hK _ _ ?_; clear hK K) | (refine reg_read (by rfl) (fun K hK => ?_); go_simp; refine hK _ _ ?_; clear hK K))
          clear CF
          refine reg_new (by rfl) (fun rn K hK => ?_); go_simp
          have ma := ((Mod.refl (fun _ => False) wf).drewN rn).alloc (.cells #[.pointer none] 72)
          refine hK _ _ ⟨((Mod.refl (fun _ => False) (World.drewN wf rn)).alloc (.cells #[.pointer none] 72)).ex, ?_⟩; clear hK K
          have RA := Lib.hid (RF.out.new ma)
          have BA := Lib.hid (show Blk ((World.drewN wf rn).alloc (.cells #[.pointer none] 72)) wf.heap.size #[.pointer none] 72 ∧ w.heap.size ≤ wf.heap.size from ⟨Blk.new (World.drewN wf rn) _ _, RF.out.md.size⟩)
          obtain ⟨fb, hfb⟩ : ∃ fb, fb = wf.heap.size := ⟨_, rfl⟩
          have SA := Lib.hid (And.intro trivial (fun v (h : Sl wf v 1 2 [.string S, .string U]) => h.mod ma (fun _ _ _ _ h => h)))
          rw [← hfb] at BA ⊢
          clear hfb ma RF
          generalize (World.drewN wf rn).alloc (.cells #[.pointer none] 72) = wa at *
          repeat (first | (refine reg_anyT (by rfl) (fun K hK => ?_); go_simp; refine hK _ _ ?_; clear hK K) | (refine reg_read (by rfl) (fun K hK => ?_); go_simp; refine hK _ _ ?_; clear hK K))
          clear SA
          have b0 := BA.out.1.cell 0
          have b1 := BA.out.1.frozen 0
          repeat (first | (refine reg_anyT (by rfl) (fun K hK => ?_); go_simp; refine hK _ _ ?_; clear hK K) | (refine reg_read (by rfl) (fun K hK => ?_); go_simp; refine hK _ _ ?_; clear hK K))
          refine reg_eff (by rfl) (fun rn K hK => ?_); go_simp; refine hK _ _ ?_; clear hK K
          repeat (first | (refine reg_anyT (by rfl) (fun K hK => ?_); go_simp; refine hK _ _ ?_; clear hK K) | (refine reg_read (by rfl) (fun K hK => ?_); go_simp; refine hK _ _ ?_; clear hK K))
          refine reg_nilT ?_
          refine wpT_done (fun nd => ?_)
          have HE := Lib.hid (RA.out.store BA.out rn nd (.pointer (some ⟨G.b, 0, none⟩)))
          clear b0 b1
          generalize World.drewN (World.setCell (World.drewN wa rn) ⟨fb, 0, none⟩ (.pointer (some ⟨G.b, 0, none⟩))) nd = we at *
          go_wp2_with fail
          go_meet
          exact ⟨fb, rfl, rfl, HE.out.1, HE.out.2⟩
  case rest =>
    obtain ⟨fb, rfl, rfl, HB1, HN1⟩ := hcut
    generalize wc = w1 at *
    clear HRN HRT HJF
    have HC := Lib.hid (jChange (w := w1) HN1.out.dk 65 #[.pointer (some ⟨bx, 0, none⟩), .pointer (some ⟨fb, 0, none⟩), .pointer (some ⟨bu, 0, none⟩)] (fun q' => q' = qNew G) (enters_of Try.func65 (by kernel_rfl) rfl) (fun w3 m3 s3 t3 z3 => by
      have hx3 := t3.blk HN1.out.x (by simp)
      have hu3 := t3.blk HN1.out.u (by simp)
      have hf3 := t3.blk HB1.out (by simp)
      rw [HS.out] at hx3
      rw [HU.out] at hu3
      refine (jRename1 true false G.b m3 bx fb bu (mvq q) w3 s3 hx3 hf3 hu3).mono ?_
      rintro e w4 ⟨h1, h2, h4⟩
      refine ⟨h1, qNew G, rfl, ?_, h4, ?_, ?_⟩
      · rw [← put_del_new q G, ← mvq_put, ← mvq_del]; exact h2
      · intro p F hF
        have hFG : F = G := by
          unfold qNew at hF
          split at hF
          · exact (Option.some.inj hF).symm
          · cases hF
        rw [hFG]
        exact ((HN1.out.dk.hf true G HQ.out).tm t3 (by simp) (by simp)).nc s3.nc h4
      · intro F G' hF hG
        simp [qNew] at hG) HMS.out (Nat.le_trans HB.out HN1.out.md.size))
    go_wp2_with fail
    refine HC.out.mono ?_; rintro e w3 ⟨⟨vv, rfl⟩, q', m', st', rfl, D3, T3⟩
    have R3 := Lib.hid (And.intro D3 ((TM.new HN1.out.md).trans T3))
    clear D3 T3
    go_wp2_with fail
    go_ret
    exact ⟨rfl, m', st', R3.out⟩
end Go.Proofs.Ytdlplablojdjlaa
