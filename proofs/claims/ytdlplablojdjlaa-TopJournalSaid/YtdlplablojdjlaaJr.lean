/- Package journal: Commit whole; no condition. -/
import Derived.Test.YtdlplablojdjlaaJq
import Derived.BigQuiet
namespace Go.Proofs.Ytdlplablojdjlaa
open Go Go.RowKit

def cmSt (base j d m : Nat) (st : Value) (b : Nat) (bs s : List Nat) (N S C : Nat) (w : World) : Nat → Prop
  | 0 => ∃ wv x, JS w base j d ⟨b, bs, s⟩ m st wv [(b, x)] N S C
  | 1 => ∃ wv, JS w base j d ⟨b, bs, bs⟩ m st wv [] N S C
  | 2 => ∃ wv x, JS w base j d ⟨b, wr bs ((N + 1) % 2 * 16) (hd (N + 1) S), bs⟩ m st wv [(b, x)] N S C
  | 3 => ∃ wv, JS w base j d ⟨b, wr bs ((N + 1) % 2 * 16) (hd (N + 1) S), wr bs ((N + 1) % 2 * 16) (hd (N + 1) S)⟩ m st wv [] N S C
  | _ => ∃ wv, JS w base j d ⟨b, wr bs ((N + 1) % 2 * 16) (hd (N + 1) S), wr bs ((N + 1) % 2 * 16) (hd (N + 1) S)⟩ m st wv [] (N + 1) S S
structure CmP (w0 : World) (base j d m : Nat) (st : Value) (b : Nat) (bs s : List Nat) (N S C bj bn g : Nat) (fs : List Stp) (k : Nat) (w : World) : Prop where
  x : Blk w bj #[.pointer (some ⟨j, 0, none⟩)] 31
  y : Blk w bn #[.int .i64 (N + 1 : Nat)] 3
  z : Blk w g (fs.map stV).toArray 39
  t : TM tJ base w0 w
  s : cmSt base j d m st b bs s N S C w k
def cmFs (bj bn : Nat) : List Stp := [(27, #[], #[.pointer (some ⟨bj, 0, none⟩)]), (29, #[], #[.pointer (some ⟨bj, 0, none⟩), .pointer (some ⟨bn, 0, none⟩)]), (31, #[], #[.pointer (some ⟨bj, 0, none⟩)]), (32, #[], #[.pointer (some ⟨bn, 0, none⟩), .pointer (some ⟨bj, 0, none⟩)])]
theorem CmP.new {w0 : World} {base j d m : Nat} {st : Value} {b : Nat} {bs s : List Nat} {N S C bj bn g : Nat} {fs : List Stp} {k : Nat} {w w' : World} (h : CmP w0 base j d m st b bs s N S C bj bn g fs k w) (hm : Mod (fun _ => False) w w') : CmP w0 base j d m st b bs s N S C bj bn g fs k w' := by
  have T : TM tJ base w w' := TM.new hm
  refine ⟨T.blk h.x (by simp), T.blk h.y (by simp), T.blk h.z (by simp), h.t.trans T, ?_⟩
  have hs := h.s
  match k, hs with
  | 0, ⟨wv, x, hj⟩ => exact ⟨wv, x, hj.new hm⟩
  | 1, ⟨wv, hj⟩ => exact ⟨wv, hj.new hm⟩
  | 2, ⟨wv, x, hj⟩ => exact ⟨wv, x, hj.new hm⟩
  | 3, ⟨wv, hj⟩ => exact ⟨wv, hj.new hm⟩
  | k + 4, ⟨wv, hj⟩ => exact ⟨wv, hj.new hm⟩
theorem cmStep {w0 : World} {base j d m : Nat} {st : Value} {b : Nat} {bs s : List Nat} {N S C bj bn g : Nat} (hN : N + 1 ≤ 1000000) (hS : S ≤ 200000) (hl : bs.length = 32 + S) (k : Nat) (p : Stp) (w' : World) (hp : (cmFs bj bn)[k]? = some p) (h : CmP w0 base j d m st b bs s N S C bj bn g (cmFs bj bn) k w') :
    (∀ args w, (callFunc p.1 args).run Try.prog w = .ok (.enter p.1 args) w) ∧ Calls Try.prog p.1 (p.2.1 ++ p.2.2) w' fun e w'' => e = .returned (.int .i64 0) ∧ CmP w0 base j d m st b bs s N S C bj bn g (cmFs bj bn) (k + 1) w'' := by
  have keep : ∀ {w'' : World}, TM tJ base w' w'' → cmSt base j d m st b bs s N S C w'' (k + 1) → CmP w0 base j d m st b bs s N S C bj bn g (cmFs bj bn) (k + 1) w'' := fun ht hs =>
    ⟨ht.blk h.x (by simp), ht.blk h.y (by simp), ht.blk h.z (by simp), h.t.trans ht, hs⟩
  match k, hp with
  | 0, hp =>
    cases hp
    obtain ⟨wv, x, hj⟩ := h.s
    refine ⟨enters_of Try.func27 (by kernel_rfl) rfl, (jCommit1 hj h.x).mono ?_⟩
    rintro e w'' ⟨h1, h2, h3⟩
    exact ⟨h1, keep (h3.more (by simp)) h2⟩
  | 1, hp =>
    cases hp
    obtain ⟨wv, hj⟩ := h.s
    refine ⟨enters_of Try.func29 (by kernel_rfl) rfl, (jCommit2 hj h.x h.y hN hS hl).mono ?_⟩
    rintro e w'' ⟨h1, h2, h3⟩
    exact ⟨h1, keep (h3.more (by simp)) h2⟩
  | 2, hp =>
    cases hp
    obtain ⟨wv, x, hj⟩ := h.s
    refine ⟨enters_of Try.func31 (by kernel_rfl) rfl, (jCommit3 hj h.x).mono ?_⟩
    rintro e w'' ⟨h1, h2, h3⟩
    exact ⟨h1, keep (h3.more (by simp)) h2⟩
  | 3, hp =>
    cases hp
    obtain ⟨wv, hj⟩ := h.s
    refine ⟨enters_of Try.func32 (by kernel_rfl) rfl, (jCommit4 hj h.x h.y).mono ?_⟩
    rintro e w'' ⟨h1, h2, h3⟩
    exact ⟨h1, keep h3 ⟨wv, h2⟩⟩
  | k + 4, hp => simp [cmFs] at hp
theorem sl_blk {w : World} {g : Nat} {xs : List Value} {t : TypeId} (h : Blk w g xs.toArray t) : Sl w (.slice (some ⟨g, 0, none⟩) xs.length xs.length) 1 xs.length xs := by
  refine .inr ⟨_, _, rfl, by simp, fun j u hj => ?_⟩
  rw [add_g, h.cell j]
  simpa using hj
set_option maxRecDepth 1000000 in
set_option maxHeartbeats 2000000 in
theorem jCommit {base j d m N S C b : Nat} {w : World} {bs s : List Nat} {st wv : Value} {x : Int × Option Addr × Nat × Nat} (h : JS w base j d ⟨b, bs, s⟩ m st wv [(b, x)] N S C) (hSC : S ≠ C) (hN : N + 1 ≤ 1000000) (hS : S ≤ 200000) (hl : bs.length = 32 + S) :
    Calls Try.prog 11 #[.pointer (some ⟨j, 0, none⟩)] w fun e w' => e = .returned (.int .i64 0) ∧ (∃ wv', JS w' base j d ⟨b, wr bs ((N + 1) % 2 * 16) (hd (N + 1) S), wr bs ((N + 1) % 2 * 16) (hd (N + 1) S)⟩ m st wv' [] (N + 1) S S) ∧ TM tJ base w w' := by
  have ma := (Mod.refl (fun _ => False) w).alloc (.cells #[.pointer (some ⟨j, 0, none⟩)] 31)
  obtain ⟨bj, hbj⟩ : ∃ bj, bj = w.heap.size := ⟨_, rfl⟩
  have HX : Hid (Blk (w.alloc (.cells #[.pointer (some ⟨j, 0, none⟩)] 31)) bj #[.pointer (some ⟨j, 0, none⟩)] 31) := by rw [hbj]; exact Blk.new w _ _
  have HJ := Lib.hid (h.new ma)
  have HM := Lib.hid ma
  have HA := Lib.hid (And.intro hN (And.intro hS hl))
  have g1 : ¬ (S : Int) = C := by omega
  have g1' : ((S : Int) == C) = false := by simpa using g1
  have g3 : IntKind.i64.wrap ((N : Int) + 1) = ((N + 1 : Nat) : Int) := by rw [wrapI (by omega) (by omega)]; omega
  obtain ⟨N1, hN1⟩ : ∃ X, X = N + 1 := ⟨_, rfl⟩
  rw [← hN1] at g3
  have HN1 := Lib.hid hN1
  clear h ma hSC hN hS hl hN1
  go_enter Try.func11, Try.ntmps11
  go_upto_region 1 with fail
  rw [← hbj]
  clear hbj
  generalize w.alloc (.cells #[.pointer (some ⟨j, 0, none⟩)] 31) = w0 at *
  have x0 := HX.out.cell 0
  have c5 := HJ.out.jb.cell 5
  have c3 := HJ.out.jb.cell 3
  have c4 := HJ.out.jb.cell 4
  go_wp2_with fail
  go_quiet (fail)
  have J1 := Lib.hid (HJ.out.new ((Mod.refl _ w0).drewN nq))
  have M1 := Lib.hid (HM.out.drewN nq)
  have X1 := Lib.hid (show Blk (w0.drewN nq) bj _ _ from HX.out)
  clear HJ HM HX x0 c5 c3 c4
  generalize w0.drewN nq = w1 at *
  have x0 := X1.out.cell 0
  have c2 := J1.out.jb.cell 2
  have g4 : decide ((1073741824 : Int) ≤ (N : Int)) = false := by have := HA.out; exact decide_eq_false (by omega)
  go_wp2_with fail
  have ma2 := (Mod.refl (fun _ => False) w1).alloc (.cells #[.int .i64 N1] 3)
  obtain ⟨bn, hbn⟩ : ∃ bn, bn = w1.heap.size := ⟨_, rfl⟩
  have Y2 : Hid (Blk (w1.alloc (.cells #[.int .i64 N1] 3)) bn #[.int .i64 N1] 3) := by rw [hbn]; exact Blk.new w1 _ _
  have X2 := Lib.hid (X1.out.mod ma2 (fun e => e))
  have J2 := Lib.hid (J1.out.new ma2)
  have M2 := Lib.hid (M1.out.trans ma2)
  rw [← hbn]
  clear hbn ma2 X1 J1 M1 x0 c2 g4 g3 g1 g1'
  generalize w1.alloc (.cells #[.int .i64 N1] 3) = w2 at *
  have x0 := X2.out.cell 0
  obtain ⟨CS, hCS⟩ : ∃ S : World → Prop, S = fun w' => w'.cell? ⟨bj, 0, none⟩ = some (.pointer (some ⟨j, 0, none⟩)) := ⟨_, rfl⟩
  refine wp_regionS [(0, 0), (1, 0), (2, 0), (3, 0), (4, 0)] [] CS (by kernel_rfl) (by kernel_rfl) (by subst hCS; intro n; exact x0) ?_
  repeat (first | (refine reg_anyT (by rfl) (fun K hK => ?_); go_simp; refine hK _ _ ?_; clear hK K) | (refine reg_read (by rfl) (fun K hK => ?_); go_simp; refine hK _ _ ?_; clear hK K))
  refine reg_loadS (by rfl) (by rfl) (.pointer (some ⟨j, 0, none⟩)) _ _ _ rfl rfl Try.isAgg31 (by subst hCS; exact fun _ h => h) ?_
  repeat (first | (refine reg_anyT (by rfl) (fun K hK => ?_); go_simp; refine hK _ _ ?_; clear hK K) | (refine reg_read (by rfl) (fun K hK => ?_); go_simp; refine hK _ _ ?_; clear hK K))
  refine reg_effS (by rfl) (fun rn K hK => ?_); go_simp
  have ma3 : Mod (fun _ => False) w2 ((w2.drewN rn).alloc (.cells ((cmFs bj bn).map stV).toArray 39)) := ((Mod.refl _ w2).drewN rn).alloc _
  have HZ := Blk.new (w2.drewN rn) ((cmFs bj bn).map stV).toArray 39
  have X3 := X2.out.mod ma3 (fun e => e)
  have HP : CmP w base j d m st b bs s N S C bj bn w2.heap.size (cmFs bj bn) 0 ((w2.drewN rn).alloc (.cells ((cmFs bj bn).map stV).toArray 39)) :=
    ⟨X3, by rw [← HN1.out]; exact Y2.out.mod ma3 (fun e => e), HZ, TM.new (M2.out.trans ma3), ⟨wv, x, J2.out.new ma3⟩⟩
  refine hK _ _ ⟨fun m => by subst hCS; exact X3.cell 0, ?_⟩; clear hK K
  have HPP := Lib.hid HP
  change Hid (CmP w base j d m st b bs s N S C bj bn w2.heap.size (cmFs bj bn) 0 ((w2.drewN rn).alloc (.cells #[.func (.func 27) #[] #[.pointer (some ⟨bj, 0, none⟩)], .func (.func 29) #[] #[.pointer (some ⟨bj, 0, none⟩), .pointer (some ⟨bn, 0, none⟩)], .func (.func 31) #[] #[.pointer (some ⟨bj, 0, none⟩)], .func (.func 32) #[] #[.pointer (some ⟨bn, 0, none⟩), .pointer (some ⟨bj, 0, none⟩)]] 39))) at HPP
  obtain ⟨g, hg⟩ : ∃ g, g = w2.heap.size := ⟨_, rfl⟩
  rw [← hg] at HPP ⊢
  clear ma3 HZ X3 HP hg X2 Y2 J2 M2 x0
  generalize (w2.drewN rn).alloc (.cells #[.func (.func 27) #[] #[.pointer (some ⟨bj, 0, none⟩)], .func (.func 29) #[] #[.pointer (some ⟨bj, 0, none⟩), .pointer (some ⟨bn, 0, none⟩)], .func (.func 31) #[] #[.pointer (some ⟨bj, 0, none⟩)], .func (.func 32) #[] #[.pointer (some ⟨bn, 0, none⟩), .pointer (some ⟨bj, 0, none⟩)]] 39) = w3 at *
  refine reg_effS (by rfl) (fun rn3 K hK => ?_); go_simp
  refine (jAll (.slice (some ⟨g, 0, none⟩) 4 4) (cmFs bj bn) (CmP w base j d m st b bs s N S C bj bn g (cmFs bj bn)) (w3.drewN rn3) (fun k w' h => sl_blk h.z) (fun k p w' h1 h2 => cmStep HA.out.1 HA.out.2.1 HA.out.2.2 k p w' h1 h2) (HPP.out.new ((Mod.refl _ w3).drewN rn3)) (by simp [cmFs])).mono ?_
  rintro e w4 ⟨rfl, p4⟩
  refine hK _ _ ⟨fun m => by subst hCS; exact p4.x.cell 0, ?_⟩; clear hK K
  obtain ⟨wv4, j4⟩ : ∃ wv, JS w4 base j d ⟨b, wr bs ((N + 1) % 2 * 16) (hd (N + 1) S), wr bs ((N + 1) % 2 * 16) (hd (N + 1) S)⟩ m st wv [] (N + 1) S S := p4.s
  have J4 := Lib.hid j4
  have X4 := Lib.hid p4.x
  have T4 := Lib.hid p4.t
  clear p4 j4 HPP
  refine reg_effS (by rfl) (fun rn4 K hK => ?_); go_simp
  refine (jBreaks base j d (N + 1) S S (w4.drewN rn4) (J4.out.new ((Mod.refl _ w4).drewN rn4)).jb J4.out.jge).mono ?_
  rintro e w5 ⟨rfl, b5, t5⟩
  have m4 := (Mod.refl (fun _ => False) w4).drewN rn4
  have X5 : Blk w5 bj _ _ := t5.blk (X4.out.mod m4 (fun e => e)) (by simp)
  refine hK _ _ ⟨fun m => by subst hCS; exact X5.cell 0, ?_⟩; clear hK K
  repeat (first | (refine reg_anyT (by rfl) (fun K hK => ?_); go_simp; refine hK _ _ ?_; clear hK K) | (refine reg_read (by rfl) (fun K hK => ?_); go_simp; refine hK _ _ ?_; clear hK K))
  refine reg_nil (fun nd => ?_)
  have md := (Mod.refl (fun _ => False) w5).drewN nd
  have R5 : Hid (JS (w5.drewN nd) base j d ⟨b, wr bs ((N + 1) % 2 * 16) (hd (N + 1) S), wr bs ((N + 1) % 2 * 16) (hd (N + 1) S)⟩ m st wv4 [] (N + 1) S S ∧ TM tJ base w (w5.drewN nd)) :=
    ⟨⟨b5.mod md (fun e => e), (((J4.out.dk.new m4).tm t5 (by simp) (by simp))).new md, J4.out.jge⟩, ((T4.out.trans (TM.new m4)).trans (t5.more (by simp))).trans (TM.new md)⟩
  clear md m4 b5 t5 X5 X4 T4 J4
  generalize w5.drewN nd = w6 at *
  go_wp2_with fail
  go_ret
  exact ⟨rfl, ⟨_, R5.out.1⟩, R5.out.2⟩
end Go.Proofs.Ytdlplablojdjlaa
