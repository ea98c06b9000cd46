/- Package journal: the steps of put; no condition. -/
import Derived.Test.YtdlplablojdjlaaJr
namespace Go.Proofs.Ytdlplablojdjlaa
open Go Go.RowKit

theorem putQ_put (q : QF) (o : Bool) (F G : FileS) : putQ (putQ q o F) o G = putQ q o G := by
  funext p
  unfold putQ
  by_cases h : p = o <;> simp [h]
theorem putQ_at (q : QF) (o : Bool) (F : FileS) : putQ q o F o = some F := by simp [putQ]
/-- What a step of put has. -/
structure PE (w : World) (base j d N S C bj bf : Nat) : Prop where
  jb : JB w j d N S C
  jge : base ≤ j
  x : Blk w bj #[.pointer (some ⟨j, 0, none⟩)] 31
  f : Blk w bf #[.string (nmOf true)] 9
theorem PE.tm {w w' : World} {base j d N S C bj bf : Nat} (h : PE w base j d N S C bj bf) (hm : TM tD base w w') : PE w' base j d N S C bj bf := ⟨hm.blk h.jb (by simp), h.jge, hm.blk h.x (by simp), hm.blk h.f (by simp)⟩
theorem PE.lt {w : World} {base j d N S C bj bf : Nat} (h : PE w base j d N S C bj bf) : base ≤ w.heap.size := by
  have h1 := h.jb.lt
  have h2 := h.jge
  omega
set_option maxRecDepth 100000 in
set_option maxHeartbeats 1000000 in
theorem jPut2 {base j d m N S C bj bf : Nat} {w : World} {q : QF} {st wv : Value} {ms : List Nat} (h : PE w base j d N S C bj bf) (hd : DK w base d 16777216 m q st ms wv []) (hq : q true = none) (hms : ms.length ≤ 5) :
    Calls Try.prog 44 #[.pointer (some ⟨bj, 0, none⟩), .pointer (some ⟨bf, 0, none⟩)] w fun e w' => e = .returned (.int .i64 0) ∧ (∃ fb m' st', DK w' base d 16777216 m' (putQ q true ⟨fb, [], []⟩) st' (ms ++ [m']) wv []) ∧ TM tD base w w' := by
  have HW := Lib.hid (fun rn => jCreate (w := w.drewN rn) true (hd.drewN rn) hq hms h.lt)
  have c0 := h.x.cell 0
  have d0 := h.jb.cell 0
  have d1 := h.jb.cell 1
  have f0 := h.f.cell 0
  go_enter Try.func44, Try.ntmps44
  go_wp2_with fail
  refine wp_region2 [] [] (by kernel_rfl) (by kernel_rfl) ?_
  repeat (first | (refine reg_anyT (by rfl) (fun K hK => ?_); go_simp; refine hK _ _ ?_; clear hK K) | (refine reg_read (by rfl) (fun K hK => ?_); go_simp; refine hK _ _ ?_; clear hK K))
  refine reg_eff (by rfl) (fun rn K hK => ?_); go_simp
  refine (HW.out rn).mono ?_; rintro e w2 ⟨rfl, hp⟩
  refine hK _ _ ?_; clear hK K
  repeat (first | (refine reg_anyT (by rfl) (fun K hK => ?_); go_simp; refine hK _ _ ?_; clear hK K) | (refine reg_read (by rfl) (fun K hK => ?_); go_simp; refine hK _ _ ?_; clear hK K))
  refine reg_nil (fun nd => ?_)
  have R2 := Lib.hid hp
  have md := (Mod.refl (fun _ => False) w2).drewN nd
  have ms := (Mod.refl (fun _ => False) w).drewN rn
  obtain ⟨fb, m', st', h1, h2, h3⟩ := R2.out
  have R3 := Lib.hid (And.intro (h2.new md) (((TM.new (ts := tD) (base := base) ms).trans h3).trans (TM.new md)))
  clear h1 h2 h3 md ms R2 HW
  generalize w2.drewN nd = w3 at *
  clear h hd c0 d0 d1 f0
  go_wp2_with fail
  go_ret
  exact ⟨rfl, ⟨_, _, _, R3.out.1⟩, R3.out.2⟩
set_option maxRecDepth 100000 in
set_option maxHeartbeats 1000000 in
theorem jPut3 {base base' j d m N S C bj bf bw fb : Nat} {w : World} {q : QF} {st wv v : Value} {ms : List Nat} {W : List Nat} (h : PE w base j d N S C bj bf) (hd : DK w base d 16777216 m q st ms wv []) (hq : q true = some ⟨fb, [], []⟩) (hw : Blk w bw #[v] 37) (hv : OB w base' v W) (h0 : 0 < W.length) (h1 : W.length ≤ 300000) :
    Calls Try.prog 45 #[.pointer (some ⟨bj, 0, none⟩), .pointer (some ⟨bf, 0, none⟩), .pointer (some ⟨bw, 0, none⟩)] w fun e w' => e = .returned (.int .i64 0) ∧ (∃ wv' x, DK w' base d 16777216 m (putQ q true ⟨fb, W, []⟩) st ms wv' [(fb, x)]) ∧ TM tD base w w' := by
  have hl : lenq q false + lenq q true ≤ 1048576 := by
    have h2 : lenq q true = 0 := by simp [lenq, hq]
    rw [h2]
    unfold lenq
    cases e : q false with
    | none => simp
    | some F => simpa using (hd.hf false F e).sm
  have HW := Lib.hid (fun rn => jWrite (w := w.drewN rn) true ⟨fb, [], []⟩ 0 v W (hd.drewN rn) hq (hv.bs.new ((Mod.refl _ w).drewN rn)) (ob_ne hv (hd.hf true _ hq)) (Nat.zero_le _) h0 (by omega) (by omega) (by simp) h.lt)
  obtain ⟨va, vc, rfl, _, _⟩ := hv.len
  have w0 := hw.cell 0
  have c0 := h.x.cell 0
  have d0 := h.jb.cell 0
  have d1 := h.jb.cell 1
  have f0 := h.f.cell 0
  go_enter Try.func45, Try.ntmps45
  go_wp2_with fail
  refine wp_region2 [] [] (by kernel_rfl) (by kernel_rfl) ?_
  repeat (first | (refine reg_anyT (by rfl) (fun K hK => ?_); go_simp; refine hK _ _ ?_; clear hK K) | (refine reg_read (by rfl) (fun K hK => ?_); go_simp; refine hK _ _ ?_; clear hK K))
  refine reg_eff (by rfl) (fun rn K hK => ?_); go_simp
  refine (HW.out rn).mono ?_; rintro e w2 ⟨rfl, hp⟩
  refine hK _ _ ?_; clear hK K
  repeat (first | (refine reg_anyT (by rfl) (fun K hK => ?_); go_simp; refine hK _ _ ?_; clear hK K) | (refine reg_read (by rfl) (fun K hK => ?_); go_simp; refine hK _ _ ?_; clear hK K))
  refine reg_nil (fun nd => ?_)
  have R2 := Lib.hid hp
  have md := (Mod.refl (fun _ => False) w2).drewN nd
  have ms := (Mod.refl (fun _ => False) w).drewN rn
  obtain ⟨wv', x, h2, h3⟩ := R2.out
  rw [wr_nil] at h2
  have R3 := Lib.hid (And.intro (h2.new md) (((TM.new (ts := tD) (base := base) ms).trans h3).trans (TM.new md)))
  clear h2 h3 md ms R2 HW w0
  generalize w2.drewN nd = w3 at *
  clear h hd c0 d0 d1 f0 hw hv
  go_wp2_with fail
  go_ret
  exact ⟨rfl, ⟨_, _, R3.out.1⟩, R3.out.2⟩
set_option maxRecDepth 100000 in
set_option maxHeartbeats 1000000 in
theorem jPut4 {base j d m N S C bj bf : Nat} {w : World} {q : QF} {st wv : Value} {ms : List Nat} {F : FileS} {x : Int × Option Addr × Nat × Nat} (h : PE w base j d N S C bj bf) (hd : DK w base d 16777216 m q st ms wv [(F.b, x)]) (hq : q true = some F) :
    Calls Try.prog 46 #[.pointer (some ⟨bj, 0, none⟩), .pointer (some ⟨bf, 0, none⟩)] w fun e w' => e = .returned (.int .i64 0) ∧ (∃ wv', DK w' base d 16777216 m (putQ q true ⟨F.b, F.n, F.n⟩) st ms wv' []) ∧ TM tD base w w' := by
  have HW := Lib.hid (fun rn => jSync (w := w.drewN rn) true F x (hd.drewN rn) hq h.lt)
  have c0 := h.x.cell 0
  have d0 := h.jb.cell 0
  have d1 := h.jb.cell 1
  have f0 := h.f.cell 0
  go_enter Try.func46, Try.ntmps46
  go_wp2_with fail
  refine wp_region2 [] [] (by kernel_rfl) (by kernel_rfl) ?_
  repeat (first | (refine reg_anyT (by rfl) (fun K hK => ?_); go_simp; refine hK _ _ ?_; clear hK K) | (refine reg_read (by rfl) (fun K hK => ?_); go_simp; refine hK _ _ ?_; clear hK K))
  refine reg_eff (by rfl) (fun rn K hK => ?_); go_simp
  refine (HW.out rn).mono ?_; rintro e w2 ⟨rfl, hp⟩
  refine hK _ _ ?_; clear hK K
  repeat (first | (refine reg_anyT (by rfl) (fun K hK => ?_); go_simp; refine hK _ _ ?_; clear hK K) | (refine reg_read (by rfl) (fun K hK => ?_); go_simp; refine hK _ _ ?_; clear hK K))
  refine reg_nil (fun nd => ?_)
  have R2 := Lib.hid hp
  have md := (Mod.refl (fun _ => False) w2).drewN nd
  have ms := (Mod.refl (fun _ => False) w).drewN rn
  obtain ⟨wv', h2, h3⟩ := R2.out
  have R3 := Lib.hid (And.intro (h2.new md) (((TM.new (ts := tD) (base := base) ms).trans h3).trans (TM.new md)))
  clear h2 h3 md ms R2 HW
  generalize w2.drewN nd = w3 at *
  clear h hd c0 d0 d1 f0
  go_wp2_with fail
  go_ret
  exact ⟨rfl, ⟨_, R3.out.1⟩, R3.out.2⟩
set_option maxRecDepth 100000 in
set_option maxHeartbeats 1000000 in
theorem jPut5 {base j d m N S C bj bf : Nat} {w : World} {q : QF} {st wv : Value} {ms : List Nat} {F : FileS} (h : PE w base j d N S C bj bf) (hd : DK w base d 16777216 m q st ms wv []) (hq : q true = some F) (hms : ms.length ≤ 5) :
    Calls Try.prog 47 #[.pointer (some ⟨bj, 0, none⟩), .pointer (some ⟨bf, 0, none⟩)] w fun e w' => e = .returned (.int .i64 0) ∧ (∃ m' st', DK w' base d 16777216 m' (qNew F) st' (ms ++ [m']) wv []) ∧ TM tD base w w' := by
  have HW := Lib.hid (fun rn => jRename (w := w.drewN rn) F (hd.drewN rn) hq hms h.lt)
  have c0 := h.x.cell 0
  have d0 := h.jb.cell 0
  have d1 := h.jb.cell 1
  have f0 := h.f.cell 0
  go_enter Try.func47, Try.ntmps47
  go_wp2_with fail
  refine wp_region2 [] [] (by kernel_rfl) (by kernel_rfl) ?_
  repeat (first | (refine reg_anyT (by rfl) (fun K hK => ?_); go_simp; refine hK _ _ ?_; clear hK K) | (refine reg_read (by rfl) (fun K hK => ?_); go_simp; refine hK _ _ ?_; clear hK K))
  refine reg_eff (by rfl) (fun rn K hK => ?_); go_simp
  refine (HW.out rn).mono ?_; rintro e w2 ⟨rfl, hp⟩
  refine hK _ _ ?_; clear hK K
  repeat (first | (refine reg_anyT (by rfl) (fun K hK => ?_); go_simp; refine hK _ _ ?_; clear hK K) | (refine reg_read (by rfl) (fun K hK => ?_); go_simp; refine hK _ _ ?_; clear hK K))
  refine reg_nil (fun nd => ?_)
  have R2 := Lib.hid hp
  have md := (Mod.refl (fun _ => False) w2).drewN nd
  have ms := (Mod.refl (fun _ => False) w).drewN rn
  obtain ⟨m', st', h2, h3⟩ := R2.out
  have R3 := Lib.hid (And.intro (h2.new md) (((TM.new (ts := tD) (base := base) ms).trans h3).trans (TM.new md)))
  clear h2 h3 md ms R2 HW
  generalize w2.drewN nd = w3 at *
  clear h hd c0 d0 d1 f0
  go_wp2_with fail
  go_ret
  exact ⟨rfl, ⟨_, _, R3.out.1⟩, R3.out.2⟩
set_option maxRecDepth 100000 in
set_option maxHeartbeats 2000000 in
theorem jPut6 {base j d m N S C bj bb L : Nat} {w : World} {q : QF} {st wv : Value} {ms : List Nat} {ls : List LT3} {a : Option Addr} {c : Nat} (jb : JB w j d N S C) (jge : base ≤ j) (hd : DK w base d 16777216 m q st ms wv ls) (hx : Blk w bj #[.pointer (some ⟨j, 0, none⟩)] 31) (hb : Blk w bb #[.slice a L c] 37) :
    Calls Try.prog 50 #[.pointer (some ⟨bb, 0, none⟩), .pointer (some ⟨bj, 0, none⟩)] w fun e w' => e = .returned (.int .i64 0) ∧ (JB w' j d 1 L L ∧ DK w' base d 16777216 m q st ms wv ls) ∧ TM tJ base w w' := by
  have c0 := hx.cell 0
  have b0 := hb.cell 0
  have e2 := jb.cell 2
  have e3 := jb.cell 3
  have e4 := jb.cell 4
  have f2 := jb.frozen 2
  have f3 := jb.frozen 3
  have f4 := jb.frozen 4
  have HX := Lib.hid (And.intro hx hb)
  have HJ := Lib.hid (And.intro jb (And.intro jge hd))
  have HT : Hid (∀ (w' : World) (N S C : Nat), JB w' j d N S C → Blk w' bj #[.pointer (some ⟨j, 0, none⟩)] 31 → Blk w' bb #[.slice a L c] 37 → ∀ (rn k : Nat) (v : Value),
      TM [64] base w' ((w'.drewN rn).setCell ⟨j, k, none⟩ v) ∧ Blk ((w'.drewN rn).setCell ⟨j, k, none⟩ v) bj #[.pointer (some ⟨j, 0, none⟩)] 31 ∧ Blk ((w'.drewN rn).setCell ⟨j, k, none⟩ v) bb #[.slice a L c] 37) := fun w' N S C h1 h2 h3 rn k v => by
    have T := (TM.new (ts := [64]) (base := base) ((Mod.refl (fun _ => False) w').drewN rn)).trans (TM.set (ts := [64]) (show JB (w'.drewN rn) j d N S C from h1) jge (by simp) k v)
    exact ⟨T, T.blk h2 (by simp), T.blk h3 (by simp)⟩
  clear jb jge hd hx hb
  go_enter Try.func50, Try.ntmps50
  go_wp2_with fail
  obtain ⟨CS, hCS⟩ : ∃ S : World → Prop, S = fun w' => w'.cell? ⟨bj, 0, none⟩ = some (.pointer (some ⟨j, 0, none⟩)) ∧ w'.cell? ⟨bb, 0, none⟩ = some (.slice a L c) := ⟨_, rfl⟩
  refine wp_regionS [(0, 0), (1, 0), (2, 0), (3, 0), (4, 0), (5, 0), (6, 0)] [] CS (by kernel_rfl) (by kernel_rfl) (by subst hCS; intro n; exact ⟨c0, b0⟩) ?_
  refine reg_loadS (by rfl) (by rfl) (.pointer (some ⟨j, 0, none⟩)) _ _ _ rfl rfl Try.isAgg31 (by subst hCS; exact fun _ h => h.1) ?_
  refine reg_loadS (by rfl) (by rfl) (.pointer (some ⟨j, 0, none⟩)) _ _ _ rfl rfl Try.isAgg31 (by subst hCS; exact fun _ h => h.1) ?_
  refine reg_loadS (by rfl) (by rfl) (.pointer (some ⟨j, 0, none⟩)) _ _ _ rfl rfl Try.isAgg31 (by subst hCS; exact fun _ h => h.1) ?_
  refine reg_loadS (by rfl) (by rfl) (.slice a L c) _ _ _ rfl rfl Try.isAgg37 (by subst hCS; exact fun _ h => h.2) ?_
  repeat (first | (refine reg_anyT (by rfl) (fun K hK => ?_); go_simp; refine hK _ _ ?_; clear hK K) | (refine reg_read (by rfl) (fun K hK => ?_); go_simp; refine hK _ _ ?_; clear hK K))
  refine reg_loadS (by rfl) (by rfl) (.slice a L c) _ _ _ rfl rfl Try.isAgg37 (by subst hCS; exact fun _ h => h.2) ?_
  repeat (first | (refine reg_anyT (by rfl) (fun K hK => ?_); go_simp; refine hK _ _ ?_; clear hK K) | (refine reg_read (by rfl) (fun K hK => ?_); go_simp; refine hK _ _ ?_; clear hK K))
  refine reg_effS (by rfl) (fun rn K hK => ?_); go_simp
  have H1 := Lib.hid (HT.out w N S C HJ.out.1 HX.out.1 HX.out.2 rn 2 (.int .i64 1))
  have B1 := Lib.hid (show JB ((w.drewN rn).setCell ⟨j, 2, none⟩ (.int .i64 1)) j d 1 S C from (show JB (w.drewN rn) j d N S C from HJ.out.1).set 2 _)
  refine hK _ _ ⟨fun m => by subst hCS; exact ⟨H1.out.2.1.cell 0, H1.out.2.2.cell 0⟩, ?_⟩; clear hK K
  generalize (w.drewN rn).setCell ⟨j, 2, none⟩ (.int .i64 1) = w2 at *
  clear c0 b0 e2 e3 e4 f2 f3 f4
  have e3 := B1.out.cell 3
  have f3 := B1.out.frozen 3
  repeat (first | (refine reg_anyT (by rfl) (fun K hK => ?_); go_simp; refine hK _ _ ?_; clear hK K) | (refine reg_read (by rfl) (fun K hK => ?_); go_simp; refine hK _ _ ?_; clear hK K))
  refine reg_effS (by rfl) (fun rn2 K hK => ?_); go_simp
  have H2 := Lib.hid (HT.out w2 1 S C B1.out H1.out.2.1 H1.out.2.2 rn2 3 (.int .i64 L))
  have B2 := Lib.hid (show JB ((w2.drewN rn2).setCell ⟨j, 3, none⟩ (.int .i64 L)) j d 1 L C from (show JB (w2.drewN rn2) j d 1 S C from B1.out).set 3 _)
  refine hK _ _ ⟨fun m => by subst hCS; exact ⟨H2.out.2.1.cell 0, H2.out.2.2.cell 0⟩, ?_⟩; clear hK K
  generalize (w2.drewN rn2).setCell ⟨j, 3, none⟩ (.int .i64 L) = w3 at *
  clear e3 f3
  have e4 := B2.out.cell 4
  have f4 := B2.out.frozen 4
  repeat (first | (refine reg_anyT (by rfl) (fun K hK => ?_); go_simp; refine hK _ _ ?_; clear hK K) | (refine reg_read (by rfl) (fun K hK => ?_); go_simp; refine hK _ _ ?_; clear hK K))
  refine reg_effS (by rfl) (fun rn3 K hK => ?_); go_simp
  have H3 := Lib.hid (HT.out w3 1 L C B2.out H2.out.2.1 H2.out.2.2 rn3 4 (.int .i64 L))
  have B3 := Lib.hid (show JB ((w3.drewN rn3).setCell ⟨j, 4, none⟩ (.int .i64 L)) j d 1 L L from (show JB (w3.drewN rn3) j d 1 L C from B2.out).set 4 _)
  refine hK _ _ ⟨fun m => by subst hCS; exact ⟨H3.out.2.1.cell 0, H3.out.2.2.cell 0⟩, ?_⟩; clear hK K
  generalize (w3.drewN rn3).setCell ⟨j, 4, none⟩ (.int .i64 L) = w4 at *
  clear e4 f4
  repeat (first | (refine reg_anyT (by rfl) (fun K hK => ?_); go_simp; refine hK _ _ ?_; clear hK K) | (refine reg_read (by rfl) (fun K hK => ?_); go_simp; refine hK _ _ ?_; clear hK K))
  refine reg_nil (fun nd => ?_)
  have md := (Mod.refl (fun _ => False) w4).drewN nd
  have T := ((H1.out.1.trans H2.out.1).trans H3.out.1).trans (TM.new md)
  have R := Lib.hid (And.intro (And.intro (show JB (w4.drewN nd) j d 1 L L from B3.out.mod md (fun e => e)) (HJ.out.2.2.tm T (by simp) (by simp))) (T.more (ts' := tJ) (by simp)))
  clear T md H1 H2 H3 B1 B2 B3
  generalize w4.drewN nd = w5 at *
  go_wp2_with fail
  go_ret
  exact ⟨rfl, R.out⟩
end Go.Proofs.Ytdlplablojdjlaa
