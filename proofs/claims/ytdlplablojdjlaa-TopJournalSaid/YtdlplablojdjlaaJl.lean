/- Package files: New, Crash of a disk on which all is synced; no condition. -/
import Derived.Test.YtdlplablojdjlaaJk
namespace Go.Proofs.Ytdlplablojdjlaa
open Go Go.RowKit Go.IntWalk

def NewDk (w : World) (base R d : Nat) : Prop := ∃ m m2 st, DK w base d R m (fun _ => none) st [m2] (.slice none 0 0) []
set_option maxRecDepth 100000 in
set_option maxHeartbeats 1000000 in
theorem jNewDisk (base R : Nat) (w : World) (hb : base ≤ w.heap.size) (h1 : 1 ≤ R) (h2 : R ≤ 16777216) :
    Calls Try.prog 4 #[.int .i64 R] w fun e w' => ∃ d, e = .returned (.tuple #[.pointer (some ⟨d, 0, none⟩), .int .i64 0]) ∧ NewDk w' base R d ∧ Mod (fun _ => False) w w' := by
  have hmm := @run_makeMap Try.prog
  have g1 : ¬ (R : Int) < 1 := by omega
  have g2 : ¬ (1073741824 : Int) < R := by omega
  have m1 := (Mod.refl (fun _ => False) w).alloc (.map #[] 0)
  have s1 := SMap.made w
  have s2 := s1.mod ((Mod.refl (fun _ => False) (w.alloc (.map #[] 0))).alloc (.map #[] 0)) (fun e => e)
  obtain ⟨w2, hw2⟩ : ∃ w2, w2 = (w.alloc (.map #[] 0)).alloc (.map #[] 0) := ⟨_, rfl⟩
  have z2 : w2.heap.size = w.heap.size + 2 := by rw [hw2]; simp
  have m2 := m1.alloc (.map #[] 0)
  rw [← hw2] at s2 m2
  have m3 := (Mod.refl (fun _ => False) w2).alloc (.cells #[.map (some (w.heap.size + 1))] 45)
  have o3 : (w2.alloc (.cells #[.map (some (w.heap.size + 1))] 45)).ownsRow base 45 1 (.slice (some ⟨w.heap.size + 1 + 1, 0, none⟩) 1 1) [w.heap.size + 1].length ([w.heap.size + 1].map fun m => .map (some m)) := by
    refine ⟨by simp, .inr ⟨w.heap.size + 1 + 1, 1, #[.map (some (w.heap.size + 1))], rfl, by omega, ?_, Nat.le_refl _, ?_, by simp, by simp⟩⟩
    · rw [show w.heap.size + 1 + 1 = w2.heap.size by omega]; exact heap_alloc_new w2 _
    · unfold maxLen; simp
  obtain ⟨w3, hw3⟩ : ∃ w3, w3 = w2.alloc (.cells #[.map (some (w.heap.size + 1))] 45) := ⟨_, rfl⟩
  have z3 : w3.heap.size = w.heap.size + 1 + 1 + 1 := by rw [hw3]; simp [z2]
  rw [← hw3] at m3 o3
  have m4 := (Mod.refl (fun _ => False) w3).alloc (.cells #[.int .i64 R, .map (some w.heap.size), .slice (some ⟨w.heap.size + 1 + 1, 0, none⟩) 1 1, .slice none 0 0, .slice none 0 0, .bool false] 49)
  have hb4 := Blk.new w3 #[.int .i64 R, .map (some w.heap.size), .slice (some ⟨w.heap.size + 1 + 1, 0, none⟩) 1 1, .slice none 0 0, .slice none 0 0, .bool false] 49
  have HR : Hid (NewDk (w3.alloc (.cells #[.int .i64 R, .map (some w.heap.size), .slice (some ⟨w.heap.size + 1 + 1, 0, none⟩) 1 1, .slice none 0 0, .slice none 0 0, .bool false] 49)) base R (w.heap.size + 1 + 1 + 1) ∧ Mod (fun _ => False) w (w3.alloc (.cells #[.int .i64 R, .map (some w.heap.size), .slice (some ⟨w.heap.size + 1 + 1, 0, none⟩) 1 1, .slice none 0 0, .slice none 0 0, .bool false] 49))) := by
    refine ⟨⟨w.heap.size, w.heap.size + 1, _, ⟨by rw [z3] at hb4; exact hb4, (s2.mod m3 (fun e => e)).mod m4 (fun e => e), TM.owns (TM.new (ts := []) (base := 0) m4) o3 (by simp), World.ownsRow_nil _ _ _ _, fun o F e => (by cases e), fun F G e => (by cases e), by omega, h2⟩⟩, (m2.trans m3).trans m4⟩
  rw [hw3, hw2] at HR
  clear hb h1 h2 m1 s1 s2 hw2 z2 m2 m3 o3 hw3 z3 m4 hb4
  go_enter Try.func4, Try.ntmps4
  go_wp2_with fail
  go_ret2
  exact ⟨_, rfl, HR.out⟩
/-- What stays while a crash goes over the files. -/
structure CI (w0 w : World) (base d R m : Nat) (q : QF) (st wv : Value) (F : FileS) (v2 : Value) : Prop where
  hd : Blk w d #[.int .i64 R, .map (some m), st, wv, .slice none 0 0, .bool false] 49
  hm : SMap w m (mvq q)
  hf : FK w base F
  row : w.ownsRow base 45 1 v2 2 [.map (some m), .map (some m)]
  tm : TM tD base w0 w
theorem TM.also {ts : List TypeId} {base : Nat} {S : Nat → Prop} {a b c : World} (h : TM ts base a b) (k : Mod S b c) (hS : ∀ i, S i → a.heap.size ≤ i) : TM ts base a c :=
  ⟨k.os.trans h.os, k.tape.trans h.tape, k.output.trans h.output, Nat.le_trans h.size k.size, fun i hi hs => (k.block i (Nat.lt_of_lt_of_le hi h.size) (fun e => by have := hS i e; omega)).trans (h.block i hi hs)⟩
theorem SRange.iter {w : World} {b r : Nat} {M : MV} {T : Bool → Bool} (h : SRange w b r M T) : NC w (· = r) ∧ r ≠ b := by
  obtain ⟨left, c, h1, h2⟩ := h
  obtain ⟨es, clock, since, seen, c0, g1, _, _, _, g5, _⟩ := h1
  refine ⟨fun i hi cs t z e => ?_, fun e => ?_⟩
  · rw [hi, g5] at e
    cases e
  · subst e
    rw [g1] at g5
    cases g5
theorem CI.iter {w0 w w' : World} {base d R m : Nat} {q : QF} {st wv : Value} {F : FileS} {v2 : Value} {r : Nat} {M : MV} {T : Bool → Bool} (h : CI w0 w base d R m q st wv F v2) (hr : SRange w m r M T) (hm : Mod (· = r) w w') (hlt : w0.heap.size ≤ r) : CI w0 w' base d R m q st wv F v2 := by
  obtain ⟨n, hne⟩ := hr.iter
  exact ⟨n.blk hm h.hd, h.hm.mod hm (fun e => hne e.symm), h.hf.nc n hm, n.owns hm h.row, h.tm.also hm (fun i e => by omega)⟩
theorem CI.new {w0 w w' : World} {base d R m : Nat} {q : QF} {st wv : Value} {F : FileS} {v2 : Value} (h : CI w0 w base d R m q st wv F v2) (hm : Mod (fun _ => False) w w') : CI w0 w' base d R m q st wv F v2 :=
  ⟨h.hd.mod hm (fun e => e), h.hm.mod hm (fun e => e), h.hf.tm (ts := []) (base' := 0) (TM.new hm) (by simp) (by simp), TM.owns (TM.new (ts := []) (base := 0) hm) h.row (by simp), h.tm.trans (TM.new hm)⟩
theorem SRange.ne {w : World} {b r : Nat} {M : MV} {T : Bool → Bool} (h : SRange w b r M T) {i : Nat} {cs : Array Value} {t : TypeId} (hb : Blk w i cs t) : i ≠ b ∧ i ≠ r := by
  obtain ⟨left, c, h1, h2⟩ := h
  obtain ⟨es, clock, since, seen, c0, g1, _, _, _, g5, _⟩ := h1
  have hb' : w.heap[i]? = _ := hb
  refine ⟨fun e => ?_, fun e => ?_⟩
  · subst e; rw [g1] at hb'; cases hb'
  · subst e; rw [g5] at hb'; cases hb'
theorem CI.store {w0 w : World} {base d R m : Nat} {q : QF} {st wv : Value} {F : FileS} {v2 : Value} (h : CI w0 w base d R m q st wv F v2) (hs : F.s = F.n) {nv sv : Value} (hb : Blk w F.b #[nv, sv] 78) (hsv : OB w base sv F.s) : CI w0 (w.setCell ⟨F.b, 0, none⟩ sv) base d R m q st wv F v2 := by
  have T := TM.set (ts := [78]) hb h.hf.ge (by simp) 0 sv
  have o1 := T.ob hsv (by simp)
  exact ⟨T.blk h.hd (by simp), T.smap h.hm, ⟨⟨sv, sv, hb.set 0 sv, by rw [← hs]; exact o1, o1⟩, h.hf.ge, h.hf.sm⟩, T.owns h.row (by simp), h.tm.trans (T.more (by simp))⟩
/-- A store of one cell into a block that is known whole; the world behind is named anew. -/
theorem wpList_storeB {P : Program} {ops : Array Oper} {rest : List Oper} {o : Oper} {a : Act} {w : World} {Q : Exit → Act → World → Prop} (hgd : o.guard = none) (ty : TypeId) (x y : Operand) (ho : o.op = .store ty x y) (b j : Nat) (cs : Array Value) (t : TypeId)
    (hx : a.eval x = .pointer (some ⟨b, j, none⟩)) (v : Value) (hy : a.eval y = v) (hc1 : v.cells = #[v]) (h1 : v.oneCell' = true) (hi : (P.info? ty).map (·.size) = some 1) (hb : Blk w b cs t) (hj : j < cs.size)
    (h : ∀ w', Blk w' b (cs.setIfInBounds j v) t → Mod (· = b) w w' → w'.heap.size = w.heap.size → wpList P ops Q rest (a.put o.dst undef) w') : wpList P ops Q (o :: rest) a w := by
  refine wpList_plain hgd fun K' hK' => ?_
  have hst := run_storeCells_cells (P := P) b j [v] 0 w (fun i hi => by
    simp at hi
    subst hi
    rw [hb.cell]
    simp [hj]) (fun i _ => hb.frozen _) (by simpa using h1)
  simp only [Nat.add_zero, World.setCells] at hst
  have hrun : (storeVar ty ⟨b, j, none⟩ v).run P w = .ok () (w.setCell ⟨b, j, none⟩ v) := by
    cases hq : P.info? ty with
    | none => simp [hq] at hi
    | some i =>
      have hs : i.size = 1 := by simpa [hq] using hi
      simp [storeVar, sizeOf, typeInfo, hq, hc1, hs, hst]
  unfold Oper.wp execOp
  simp only [ho, hx, hy, Instr.storeAt, Instr.sureAddr, Sem.run_bind, Sem.run_pure, Result.andThen_ok, hrun]
  exact hK' _ _ (h _ (hb.set j v) (Mod.at1 (· = b) rfl j v) (by simp [World.setCell]))
set_option maxRecDepth 100000 in
set_option maxHeartbeats 4000000 in
theorem jCrash {base d R m : Nat} {w : World} {q : QF} {st wv : Value} (F : FileS) (h : DK w base d R m q st [m] wv []) (hq : q false = some F) (hq1 : q true = none) (hs : F.s = F.n) (hbase : base ≤ w.heap.size) :
    Calls Try.prog 12 #[.pointer (some ⟨d, 0, none⟩), .int .i64 0, .slice none 0 0, .int .i64 (-1), .int .i64 0] w fun e w' => (∃ v, e = .returned v) ∧ ∃ st', DK w' base d R m q st' [m] (.slice none 0 0) [] ∧ TM tD base w w' := by
  have HD := Lib.hid h
  have HQ := Lib.hid (And.intro hq (And.intro hq1 hs))
  have HBA := Lib.hid hbase
  have HBD := Lib.hid (And.intro h.bd h.rm)
  obtain ⟨sa, sc, rfl, hsc, _, _⟩ := h.hst.els
  obtain ⟨va, vc, rfl, _⟩ := h.hwv.els
  have c1 := h.hd.cell 1
  have c2 := h.hd.cell 2
  have c3 := h.hd.cell 3
  have f1 := h.hd.frozen 1
  obtain ⟨X, rfl, x0⟩ : ∃ X : Nat, sa = some ⟨X, 0, none⟩ ∧ w.cell? ⟨X, 0, none⟩ = some (.map (some m)) := by
    rcases h.hst.2 with ⟨h1, h2⟩ | ⟨g, cap, cur, h1, h2, h3, h4, h5, h6, h7⟩
    · cases h2
    · cases h1
      refine ⟨g, rfl, ?_⟩
      have hb : Blk w g cur _ := h3
      rw [hb.cell, ← Array.getElem?_toList]
      have := congrArg (fun l => l[0]?) h7
      simp at this
      rw [← Array.getElem?_toList] at this
      exact this
  have hw0 : IntKind.i64.wrap 0 = 0 := by decide
  clear h hq hq1 hs hbase
  go_enter Try.func12, Try.ntmps12
  go_wp2_with fail
  refine wp_region2 [] [] (by kernel_rfl) (by kernel_rfl) ?_
  repeat (first | (refine reg_anyT (by rfl) (fun K hK => ?_); go_simp; refine hK _ _ ?_; clear hK K) | (refine reg_read (by rfl) (fun K hK => ?_); go_simp; refine hK _ _ ?_; clear hK K))
  refine reg_eff (by rfl) (fun rn K hK => ?_); go_simp; refine hK _ _ ?_; clear hK K
  repeat (first | (refine reg_anyT (by rfl) (fun K hK => ?_); go_simp; refine hK _ _ ?_; clear hK K) | (refine reg_read (by rfl) (fun K hK => ?_); go_simp; refine hK _ _ ?_; clear hK K))
  refine reg_nil (fun nd => ?_)
  have md : Mod (fun _ => False) w (w.drewN rn) := (Mod.refl _ w).drewN rn
  have b1 : Blk (w.drewN rn) d _ _ := HD.out.hd
  have T1 := (TM.new (ts := [49]) (base := base) md).trans ((TM.set (ts := [49]) b1 HD.out.bd (by simp) 1 (.map (some m))).trans (TM.new ((Mod.refl (fun _ => False) _).drewN nd)))
  have D1 : Hid (DK (((w.drewN rn).setCell ⟨d, 1, none⟩ (.map (some m))).drewN nd) base d R m q (.slice (some ⟨X, 0, none⟩) 1 sc) [m] (.slice va 0 vc) []) :=
    ⟨b1.set 1 (.map (some m)), T1.smap HD.out.hm, T1.owns HD.out.hst (by simp), T1.owns HD.out.hwv (by simp), fun o F e => (HD.out.hf o F e).tm T1 (by simp) (by simp), HD.out.ne, HD.out.bd, HD.out.rm⟩
  have HT1 := Lib.hid (T1.more (ts' := tD) (by simp))
  clear md b1 T1 c1 c2 c3 f1 x0 HD
  generalize ((w.drewN rn).setCell ⟨d, 1, none⟩ (.map (some m))).drewN nd = w1 at *
  have c1 := D1.out.hd.cell 1
  have c2 := D1.out.hd.cell 2
  have c3 := D1.out.hd.cell 3
  go_wp2_with fail
  go_loopw [40] (fun i wr => i = .int .i64 0 ∧ wr = w1) (fun _ _ => 0)
  case atStart => exact ⟨rfl, rfl⟩
  case round =>
    obtain ⟨rfl, hwr⟩ := hrel
    subst hwr
    obtain ⟨w2, hw2⟩ : ∃ w2, w2 = wr := ⟨_, rfl⟩
    rw [← hw2] at D1 HT1 c1 c2 c3 ⊢
    clear hw2
    go_wp2_with fail
    refine wp_region2 [(3, 3), (8, 4)] [] (by kernel_rfl) (by kernel_rfl) ?_
    repeat (first | (refine reg_anyT (by rfl) (fun K hK => ?_); go_simp; refine hK _ _ ?_; clear hK K) | (refine reg_read (by rfl) (fun K hK => ?_); go_simp; refine hK _ _ ?_; clear hK K))
    refine reg_hold_v (by rfl) (by rfl) (.slice (some ⟨X, 0, none⟩) 1 sc) (fun w' hw' => q_load _ _ _ rfl rfl Try.isAgg46 (hw'.cell c2)) ?_
    repeat (first | (refine reg_anyT (by rfl) (fun K hK => ?_); go_simp; refine hK _ _ ?_; clear hK K) | (refine reg_read (by rfl) (fun K hK => ?_); go_simp; refine hK _ _ ?_; clear hK K))
    refine reg_new (by rfl) (fun rn K hK => ?_); go_simp
    refine hK _ _ ⟨((Mod.refl (fun _ => False) (w2.drewN rn)).alloc (.cells #[.map (some m)] 45)).ex, ?_⟩; clear hK K
    have ma : Mod (fun _ => False) w2 ((w2.drewN rn).alloc (.cells #[.map (some m)] 45)) := ((Mod.refl _ w2).drewN rn).alloc _
    have oa := TM.owns (TM.new (ts := []) (base := 0) ma) D1.out.hst (by simp)
    refine reg_app (base := base) (by rfl) (by rfl) (.tmp 98) (.tmp 103) 46 45 1 rfl Try.underlying46 infoNm rfl (by decide) _ _ _ _ 1 [.map (some m)] (Nat.le_trans (Nat.le_trans HBA.out HT1.out.size) ma.size) oa rfl rfl (sl_new (w2.drewN rn) #[.map (some m)] _) (by simp [Value.oneCell']) (by decide) (by simp) ?_
    intro v3 w3 o3 n3 a3
    refine ⟨fun _ => trivial, ?_⟩
    have T3 : TM [45] base w2 w3 := (TM.new ma).trans (TM.of n3 fun i _ hi => owns_isT oa (by simp) i hi)
    obtain ⟨b3, e3, rfl, _, _⟩ := o3.els
    have CI3 : Hid (CI w w3 base d R m q (.slice (some ⟨X, 0, none⟩) 1 sc) (.slice va 0 vc) F (.slice b3 2 e3)) :=
      ⟨T3.blk D1.out.hd (by simp), T3.smap D1.out.hm, (D1.out.hf false F HQ.out.1).tm T3 (by simp) (by simp), o3, HT1.out.trans (T3.more (by simp))⟩
    clear ma oa o3 n3 a3 T3
    repeat (first | (refine reg_anyT (by rfl) (fun K hK => ?_); go_simp; refine hK _ _ ?_; clear hK K) | (refine reg_read (by rfl) (fun K hK => ?_); go_simp; refine hK _ _ ?_; clear hK K))
    refine reg_nil (fun nd => ?_)
    have CI4 := Lib.hid (CI3.out.new ((Mod.refl (fun _ => False) w3).drewN nd))
    clear CI3 D1 HT1 c1 c2 c3
    generalize w3.drewN nd = w4 at *
    obtain ⟨x, rfl⟩ : ∃ x, b3 = some x := by
      rcases CI4.out.row.sl with ⟨_, h0, _⟩ | ⟨x, c, h1, _⟩
      · cases h0
      · cases h1; exact ⟨x, rfl⟩
    go_wp2_with fail
    go_loopw [106] (fun i wr => ∃ k : Nat, i = .int .i64 k ∧ k ≤ 2 ∧ Hid (CI w wr base d R m q (.slice (some ⟨X, 0, none⟩) 1 sc) (.slice va 0 vc) F (.slice (some x) 2 e3))) (fun i _ => 2 - (intOf i).toNat)
    case atStart => exact ⟨0, rfl, by omega, CI4.out⟩
    case round =>
      obtain ⟨k, rfl, hk, hci⟩ := hrel
      obtain ⟨w5, hw5⟩ : ∃ w5, w5 = wr := ⟨_, rfl⟩
      rw [← hw5] at hci ⊢
      clear hw5
      by_cases hk2 : k < 2
      · have hki : (k : Int) < 2 := by omega
        have p : w5.cell? (x.add k) = some (.map (some m)) := by
          rcases hci.out.row.sl with ⟨_, h0, _⟩ | ⟨y, c, h1, h2, h3⟩
          · cases h0
          · cases h1
            refine h3 k _ ?_
            match k, hk2 with
            | 0, _ => rfl
            | 1, _ => rfl
        go_wp2_with (at_range; refine srange_start rfl _ rfl rfl hci.out.hm ?_; intro w6 hr0 m0 z0)
        obtain ⟨B, hB⟩ : ∃ B, B = w5.heap.size := ⟨_, rfl⟩
        rw [← hB] at hr0 ⊢
        have HR0 := Lib.hid hr0
        have HB : Hid (w.heap.size ≤ B) := by show _ ≤ _; rw [hB]; exact hci.out.tm.size
        have CI6 := Lib.hid (hci.out.new m0)
        clear hr0 hB z0 m0 p hci
        go_frame
        go_loopw [16] (fun _ wr => ∃ T, Hid (SRange wr m B (mvq q) T) ∧ Hid (CI w wr base d R m q (.slice (some ⟨X, 0, none⟩) 1 sc) (.slice va 0 vc) F (.slice (some x) 2 e3))) (fun _ wr => wr.rangeLeft m B)
        case atStart => exact ⟨_, HR0, CI6⟩
        case round =>
          obtain ⟨T, hrg, hci⟩ := hrel
          go_wp2_with (at_next; refine srange_next rfl _ rfl rfl hrg.out ?_ ?_)
          · unfold NoT
            intro hnil
            clear hnil hrg
            go_wp2_with fail
            exact ⟨⟨k + 1, by go_num, by omega, hci.out⟩, by simp [intOf]; omega⟩
          · unfold AllB
            intro y v w7 hx hmx hrg1 hlt hm1 hz1 hen
            have hv : v = .pointer (some ⟨F.b, 0, none⟩) := by
              have hq0 := HQ.out
              cases y with
              | false => rw [mvq_some hq0.1] at hmx; exact (Option.some.inj hmx).symm
              | true => rw [mvq_none hq0.2.1] at hmx; cases hmx
            subst hv
            have CI7 := Lib.hid (hci.out.iter hrg.out hm1 HB.out)
            obtain ⟨nv, sv, hb, hnv, hsv⟩ := CI7.out.hf.k
            obtain ⟨s1, s2, rfl, _, _⟩ := hsv.len
            have g0 := hb.cell 0
            have g1 := hb.cell 1
            have z0 := hb.frozen 0
            have CI8 := Lib.hid (CI7.out.store HQ.out.2.2 hb hsv)
            have hne := hrg1.ne hb
            have hms := Mod.at1 (w := w7) (· = F.b) rfl 0 (.slice s1 F.s.length s2)
            have HR8 := Lib.hid (hrg1.new hms (fun e => hne.1 e.symm) (fun e => hne.2 e.symm))
            have HL8 := Lib.hid (hrg1.leftM hms (fun e => hne.1 e.symm) (fun e => hne.2 e.symm))
            have HLT := Lib.hid hlt
            obtain ⟨L, hL⟩ : ∃ L, L = F.s.length := ⟨_, rfl⟩
            rw [← hL] at g1 CI8 HR8 HL8
            clear hx hmx hrg1 hlt hm1 hz1 hb hnv hsv hne hms hL CI7 hrg hci
            go_wp2_with fail
            exact ⟨⟨_, HR8.out, CI8.out⟩, by rw [HL8.out]; exact HLT.out⟩
      · have hki : ¬ (k : Int) < 2 := by omega
        go_upto_region 19 with fail
        have ma : Mod (fun _ => False) w5 (w5.alloc (.cells #[.map (some m)] 45)) := (Mod.refl _ w5).alloc _
        have CI6 := Lib.hid (hci.out.new ma)
        have o6 : (w5.alloc (.cells #[.map (some m)] 45)).ownsRow base 45 1 (.slice (some ⟨w5.heap.size, 0, none⟩) 1 1) [m].length ([m].map fun m => .map (some m)) := by
          have hsz := hci.out.tm.size
          have hba := HBA.out
          refine ⟨by simp, .inr ⟨w5.heap.size, 1, #[.map (some m)], rfl, by omega, heap_alloc_new w5 _, Nat.le_refl _, ?_, by simp, by simp⟩⟩
          unfold maxLen; simp
        have O6 := Lib.hid o6
        have c1 := hci.out.hd.cell 1
        obtain ⟨bs, hbs⟩ : ∃ bs, bs = w5.heap.size := ⟨_, rfl⟩
        have HBS := Lib.hid hbs
        have hB := CI6.out.hd
        have hM := Mod.refl (· = d) (w5.alloc (.cells #[.map (some m)] 45))
        have HH := Lib.hid (And.intro hki hk)
        clear ma o6 hbs hci hki hk CI4
        go_wp2_with (refine wpList_storeB rfl _ _ _ rfl d _ _ _ rfl _ rfl rfl rfl (by kernel_rfl) hB (by simp) ?_; intro w' hB' hM' hz'; replace hM := hM.trans hM'; replace hB := hB'; clear hB' hM' hz')
        have T := TM.of (ts := [49]) (base := base) hM (fun i _ e => by subst e; exact ⟨HBD.out.1, isT.of_blk CI6.out.hd (by simp)⟩)
        have HF : Hid ((∃ x, DK w' base d R m q x [m] (.slice none 0 0) []) ∧ TM tD base w w') := by
          refine ⟨⟨_, hB, T.smap CI6.out.hm, T.owns O6.out (by simp), World.ownsRow_nil _ _ _ _, fun o G e => ?_, fun A B hA hB' => ?_, HBD.out.1, HBD.out.2⟩, CI6.out.tm.trans (T.more (by simp))⟩
          · cases o with
            | false =>
              rw [HQ.out.1] at e
              cases e
              exact CI6.out.hf.tm T (by simp) (by simp)
            | true => rw [HQ.out.2.1] at e; cases e
          · rw [HQ.out.2.1] at hB'; cases hB'
        clear T hB hM O6 CI6
        go_end0
        exact ⟨⟨_, rfl⟩, HF.out⟩
end Go.Proofs.Ytdlplablojdjlaa
