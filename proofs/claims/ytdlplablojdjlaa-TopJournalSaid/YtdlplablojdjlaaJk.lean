/- Package slices: DeleteFunc of a row of one write; package files: Sync; no condition. -/
import Derived.Test.YtdlplablojdjlaaJj
import Derived.LaidEqlPtr
namespace Go.Proofs.Ytdlplablojdjlaa
open Go Go.RowKit Go.IntWalk

abbrev ltV (p : LT3) : Value := .agg #[.pointer (some ⟨p.1, 0, none⟩), .int .i64 p.2.1, .slice p.2.2.1 p.2.2.2.1 p.2.2.2.2]
theorem run_clear_late (w : World) (g c : Nat) (ty : TypeId) {cs : Array Value} (h : Blk w g cs 74) (hc : 3 ≤ cs.size) :
    (Builtin.clear_ #[47] ty #[.slice (some ⟨g, 0, none⟩) 1 c]).run Try.prog w = .ok (.tuple #[]) (w.setCells g 0 [.pointer none, .int .i64 0, .slice none 0 0]) := by
  have hst := run_storeCells_cells (P := Try.prog) g 0 [.pointer none, .int .i64 0, .slice none 0 0] 0 w (fun j hj => by
    rw [h.cell]
    simp at hj ⊢
    omega) (fun j hj => h.frozen _) (by simp [Value.oneCell'])
  simp only [Nat.add_zero] at hst
  have hz : (Builtin.zeroCells (Value.agg #[.pointer none, .int .i64 0, .slice none 0 0]).cells 1).toList = [.pointer none, .int .i64 0, .slice none 0 0] := by
    simp [Builtin.zeroCells, Value.cells]
    rfl
  simp [Builtin.clear_, run_underlying Try.underlying47, Try.zeroValue74, hz, hst]
set_option maxRecDepth 100000 in
set_option maxHeartbeats 400000 in
theorem jSync1 (p : LT3) (bx : Nat) (w : World) (h : Blk w bx #[.pointer (some ⟨p.1, 0, none⟩)] 72) :
    Calls Try.prog 56 #[ltV p, .pointer (some ⟨bx, 0, none⟩)] w fun e w' => e = .returned (.bool true) ∧ Mod (fun _ => False) w w' := by
  obtain ⟨f, k, a, l, c⟩ := p
  have ma : Mod (fun _ => False) w (w.alloc (.cells #[.pointer (some ⟨f, 0, none⟩), .int .i64 k, .slice a l c] 74)) := (Mod.refl _ w).alloc _
  have c1 := (h.mod ma (fun e => e)).cell 0
  obtain ⟨j, hj⟩ : ∃ j, Try.prog.info? 78 = some j := Option.isSome_iff_exists.1 (by kernel_rfl)
  have hq := fun w => run_eql_ptr_same (P := Try.prog) (w := w) ⟨f, 0, none⟩ Try.underlying72 hj
  clear hj
  have HM := Lib.hid ma
  clear h ma
  dsimp only at c1
  show Calls Try.prog 56 #[.agg #[.pointer (some ⟨f, 0, none⟩), .int .i64 k, .slice a l c], .pointer (some ⟨bx, 0, none⟩)] w _
  go_enter Try.func56, Try.ntmps56
  go_wp2_with fail
  go_ret
  exact ⟨rfl, HM.out⟩
set_option maxRecDepth 100000 in
set_option maxHeartbeats 1000000 in
theorem jIndexL (p : LT3) (bx g cap : Nat) (cs : Array Value) (w : World) (h : Blk w bx #[.pointer (some ⟨p.1, 0, none⟩)] 72) (hg : Blk w g cs 74) (hcs : cs.toList.take 3 = flat [p]) :
    Calls Try.prog 68 #[.slice (some ⟨g, 0, none⟩) 1 cap, .func (.func 56) #[] #[.pointer (some ⟨bx, 0, none⟩)]] w fun e w' => e = .returned (.int .i64 0) ∧ Mod (fun _ => False) w w' := by
  have HS := Lib.hid (jSync1 p bx w h)
  obtain ⟨f, k, a, l, c⟩ := p
  have hj : ∀ j u, (flat [(f, k, a, l, c)])[j]? = some u → w.cell? ⟨g, j, none⟩ = some u := fun j u hu => by
    rw [hg.cell j, ← Array.getElem?_toList, ← hu, ← hcs, List.getElem?_take]
    have := (List.getElem?_eq_some_iff.1 hu).1
    rw [if_pos (by simp [flat] at this; omega)]
  have c0 := hj 0 (.pointer (some ⟨f, 0, none⟩)) rfl
  have c1 := hj 1 (.int .i64 k) rfl
  have c2 := hj 2 (.slice a l c) rfl
  clear h hg hcs hj
  dsimp only [ltV] at HS
  go_enter Try.func68, Try.ntmps68
  go_wp2_with fail
  go_loopw [8] (fun i wr => i = .int .i64 0 ∧ wr = w) (fun _ _ => 0)
  case atStart => exact ⟨rfl, rfl⟩
  case round =>
    obtain ⟨rfl, rfl⟩ := hrel
    go_wp2_with fail
    refine HS.out.mono ?_; rintro e w1 ⟨rfl, m1⟩
    go_wp2_with fail
    go_ret
    exact ⟨rfl, m1⟩
set_option maxRecDepth 100000 in
set_option maxHeartbeats 1000000 in
theorem jDeleteL {base : Nat} {v : Value} (p : LT3) (bx : Nat) (w : World) (h : Blk w bx #[.pointer (some ⟨p.1, 0, none⟩)] 72) (ho : w.ownsRow base 74 3 v 1 (flat [p])) :
    Calls Try.prog 55 #[v, .func (.func 56) #[] #[.pointer (some ⟨bx, 0, none⟩)]] w fun e w' => ∃ g c, e = .returned (.slice (some ⟨g, 0, none⟩) 0 c) ∧ w'.ownsRow base 74 3 (.slice (some ⟨g, 0, none⟩) 0 c) 0 [] ∧ TM [74] base w w' := by
  rcases ho.2 with ⟨_, h0⟩ | ⟨g, cap, cur, rfl, hb, hg, h1, h2, h3, h4⟩
  · cases h0
  have HI := Lib.hid (jIndexL p bx g cap cur w h hg (by simpa using h4))
  have HG := Lib.hid (show Blk w g cur 74 from hg)
  have HB := Lib.hid hb
  have HS := Lib.hid (And.intro h2 h3)
  have hcap : (1 : Int) ≤ cap := by omega
  have hcap0 : ¬ cap = 0 := by omega
  clear h ho hb hg h2 h3 h4
  go_enter Try.func55, Try.ntmps55
  go_wp2_with fail
  refine HI.out.mono ?_; rintro e w1 ⟨rfl, m1⟩
  have G1 := Lib.hid (HG.out.mod m1 (fun e => e))
  have hcl := fun ty => run_clear_late w1 g cap ty G1.out (by have := HS.out; omega)
  have T2 : TM [74] base w1 (w1.setCells g 0 [.pointer none, .int .i64 0, .slice none 0 0]) := by
    refine TM.of (S := (· = g)) ?_ fun i _ e => by subst e; exact ⟨HB.out, isT.of_blk G1.out (by simp)⟩
    simp only [World.setCells]
    exact (((Mod.at1 (· = g) rfl 0 _).trans (Mod.at1 (· = g) rfl 1 _)).trans (Mod.at1 (· = g) rfl 2 _))
  have B2 : Blk (w1.setCells g 0 [.pointer none, .int .i64 0, .slice none 0 0]) g (((cur.setIfInBounds 0 (.pointer none)).setIfInBounds 1 (.int .i64 0)).setIfInBounds 2 (.slice none 0 0)) 74 := by
    simp only [World.setCells]
    exact ((G1.out.set 0 _).set 1 _).set 2 _
  have H2 := Lib.hid (And.intro ((TM.new m1).trans T2) B2)
  generalize w1.setCells g 0 [.pointer none, .int .i64 0, .slice none 0 0] = w2 at *
  clear m1 T2 B2 HG HI
  go_wp2_with fail
  go_loopw [5, 6] (fun i j wr => i = .int .i64 0 ∧ j = .int .i64 1 ∧ wr = w1) (fun _ _ _ => 0)
  case atStart => exact ⟨rfl, rfl, rfl⟩
  case round =>
    obtain ⟨rfl, rfl, rfl⟩ := hrel
    go_wp2_with fail
    go_ret
    have hsz := HS.out
    exact ⟨_, _, rfl, ⟨by simp, .inr ⟨g, cap, _, rfl, HB.out, H2.out.2, Nat.zero_le _, hsz.1, by simp; omega, by simp⟩⟩, H2.out.1⟩
theorem DK.setW' {base d R m : Nat} {w w' : World} {q : QF} {st wv v : Value} {ms : List Nat} {ls ls' : List LT3} (h : DK w base d R m q st ms wv ls) (hm : TM [74] base w w') (ho : w'.ownsRow base 74 3 v ls'.length (flat ls')) :
    DK (w'.setCell ⟨d, 3, none⟩ v) base d R m q st ms v ls' ∧ TM tD base w (w'.setCell ⟨d, 3, none⟩ v) := by
  have b1 : Blk w' d _ _ := hm.blk h.hd (by simp)
  have T := TM.set (ts := [49]) b1 h.bd (by simp) 3 v
  exact ⟨⟨b1.set 3 v, T.smap (hm.smap h.hm), T.owns (hm.owns h.hst (by simp)) (by simp), T.owns ho (by simp), fun o F e => ((h.hf o F e).tm hm (by simp) (by simp)).tm T (by simp) (by simp), h.ne, h.bd, h.rm⟩, (hm.more (by simp)).trans (T.more (by simp))⟩
set_option maxRecDepth 100000 in
set_option maxHeartbeats 1000000 in
theorem jSync {base d R m : Nat} {w : World} {q : QF} {st wv : Value} {ms : List Nat} (o : Bool) (F : FileS) (x : Int × Option Addr × Nat × Nat) (h : DK w base d R m q st ms wv [(F.b, x)]) (hq : q o = some F) (hbase : base ≤ w.heap.size) :
    Calls Try.prog 28 #[.pointer (some ⟨d, 0, none⟩), .string (nmOf o)] w fun e w' => e = .returned (.int .i64 0) ∧ ∃ wv', DK w' base d R m (putQ q o ⟨F.b, F.n, F.n⟩) st ms wv' [] ∧ TM tD base w w' := by
  have HD := Lib.hid h
  have HQ := Lib.hid hq
  have HBA := Lib.hid hbase
  have HRT : Hid (∀ w : World, Calls Try.prog 53 #[.slice (some ⟨w.heap.size, 0, none⟩) 1 1] (w.alloc (.cells #[.string (nmOf o)] 9)) fun e w' => e = .returned (.bool true) ∧ Mod (fun _ => False) w w') := fun w => jRight1 o w
  have HJF : Hid (∀ w' : World, DK w' base d R m q st ms wv [(F.b, x)] → Calls Try.prog 52 #[.pointer (some ⟨d, 0, none⟩), .string (nmOf o), .bool true] w' fun e w'' => e = .returned (.tuple #[.pointer (some ⟨F.b, 0, none⟩), .int .i64 0]) ∧ w'' = w') := fun w' h' => jFind o F h' hq
  obtain ⟨S, hS⟩ : ∃ S, S = nmOf o := ⟨_, rfl⟩
  rw [← hS] at HRT HJF ⊢
  clear h hq hbase hS
  go_enter Try.func28, Try.ntmps28
  go_wp2_with fail
  refine (HRT.out w).mono ?_; rintro e w1 ⟨rfl, n1⟩
  have D1 := Lib.hid (HD.out.new n1)
  have N1 := Lib.hid n1
  clear n1 HRT HD
  go_wp2_with fail
  refine (HJF.out w1 D1.out).mono ?_; rintro e w' ⟨rfl, rfl⟩
  clear HJF
  go_upto_region 2 with fail
  have ma : Mod (fun _ => False) w' (w'.alloc (.cells #[.pointer (some ⟨F.b, 0, none⟩)] 72)) := (Mod.refl _ w').alloc _
  have X2 := Lib.hid (Blk.new w' #[.pointer (some ⟨F.b, 0, none⟩)] 72)
  have D2 := Lib.hid (D1.out.new ma)
  have N2 := Lib.hid (N1.out.trans ma)
  obtain ⟨bx, hbx⟩ : ∃ bx, bx = w'.heap.size := ⟨_, rfl⟩
  rw [← hbx] at X2 ⊢
  clear hbx ma D1 N1
  generalize w'.alloc (.cells #[.pointer (some ⟨F.b, 0, none⟩)] 72) = w2 at *
  obtain ⟨⟨nv, sv, hb, hnv, hsv⟩, hge, hsm⟩ := D2.out.hf o F HQ.out
  obtain ⟨na, nc, rfl, _, _⟩ := hnv.len
  have x0 := X2.out.cell 0
  have f0 := hb.cell 0
  have f1 := hb.cell 1
  have z1 := hb.frozen 1
  have hbx1 : bx ≠ F.b := fun e => by
    have h1 : w2.heap[bx]? = _ := X2.out
    rw [e, show w2.heap[F.b]? = _ from hb] at h1
    cases h1
  obtain ⟨L, hL⟩ : ∃ L, L = F.n.length := ⟨_, rfl⟩
  have HNV := Lib.hid hnv
  rw [← hL] at f0 HNV
  clear hb hnv hsv hge hsm hL
  go_wp2_with fail
  refine wp_region2 [] [] (by kernel_rfl) (by kernel_rfl) ?_
  repeat (first | (refine reg_anyT (by rfl) (fun K hK => ?_); go_simp; refine hK _ _ ?_; clear hK K) | (refine reg_read (by rfl) (fun K hK => ?_); go_simp; refine hK _ _ ?_; clear hK K))
  refine reg_eff (by rfl) (fun rn K hK => ?_); go_simp; refine hK _ _ ?_; clear hK K
  repeat (first | (refine reg_anyT (by rfl) (fun K hK => ?_); go_simp; refine hK _ _ ?_; clear hK K) | (refine reg_read (by rfl) (fun K hK => ?_); go_simp; refine hK _ _ ?_; clear hK K))
  refine reg_nil (fun nd => ?_)
  have S3 := Lib.hid (((D2.out.drewN rn).setSure HQ.out (s := F.n) (TM.ob (TM.new (ts := []) (base := 0) ((Mod.refl (fun _ => False) w2).drewN rn)) HNV.out (by simp))))
  have md := (Mod.refl (fun _ => False) ((w2.drewN rn).setCell ⟨F.b, 1, none⟩ (.slice na L nc))).drewN nd
  have D3 := Lib.hid (S3.out.1.new md)
  have T3 := Lib.hid (((TM.new (ts := tD) (base := base) (N2.out.drewN rn)).trans (S3.out.2.more (by simp))).trans (TM.new md))
  have X3 := Lib.hid ((show Blk (((w2.drewN rn).setCell ⟨F.b, 1, none⟩ (.slice na L nc)).drewN nd) bx _ _ from (show Blk (w2.drewN rn) bx _ _ from X2.out).setOther (by exact hbx1.symm) _))
  clear S3 md X2 D2 N2 HNV x0 f0 f1 z1 hbx1
  generalize ((w2.drewN rn).setCell ⟨F.b, 1, none⟩ (.slice na L nc)).drewN nd = w3 at *
  have y3 := D3.out.hd.cell 3
  have HDL := Lib.hid (jDeleteL (F.b, x) bx w3 X3.out D3.out.hwv)
  go_wp2_with fail
  refine HDL.out.mono ?_; rintro e w4 ⟨g, c, rfl, o4, t4⟩
  have R4 := Lib.hid (D3.out.setW' (ls' := []) t4 o4)
  have B4 : Blk w4 d _ _ := t4.blk D3.out.hd (by simp)
  have z4 := B4.cell 3
  have z5 := B4.frozen 3
  clear o4 t4 B4 HDL y3
  go_wp2_with fail
  go_ret
  exact ⟨rfl, _, R4.out.1, T3.out.trans R4.out.2⟩
end Go.Proofs.Ytdlplablojdjlaa
