/- Package journal: all, of steps each of which is told; breaks; no condition. -/
import Derived.Test.YtdlplablojdjlaaJo
namespace Go.Proofs.Ytdlplablojdjlaa
open Go Go.RowKit

abbrev Stp := FuncId × Array Value × Array Value
def stV (p : Stp) : Value := .func (.func p.1) p.2.1 p.2.2
set_option maxRecDepth 100000 in
set_option maxHeartbeats 1000000 in
theorem jAll (v : Value) (fs : List Stp) (Pk : Nat → World → Prop) (w : World) (hs : ∀ k w', Pk k w' → Sl w' v 1 fs.length (fs.map stV))
    (hstep : ∀ (k : Nat) (p : Stp) (w' : World), fs[k]? = some p → Pk k w' → (∀ args w, (callFunc p.1 args).run Try.prog w = .ok (.enter p.1 args) w) ∧ Calls Try.prog p.1 (p.2.1 ++ p.2.2) w' fun e w'' => e = .returned (.int .i64 0) ∧ Pk (k + 1) w'')
    (h0 : Pk 0 w) (hl : fs.length ≤ 100) :
    Calls Try.prog 26 #[v] w fun e w' => e = .returned (.int .i64 0) ∧ Pk fs.length w' := by
  obtain ⟨n, hn⟩ : ∃ n, n = fs.length := ⟨_, rfl⟩
  obtain ⟨a, c, rfl⟩ : ∃ a c, v = .slice a n c := by
    rw [hn]
    rcases hs 0 w h0 with ⟨rfl, h2, _⟩ | ⟨x, c, rfl, _, _⟩
    · exact ⟨none, 0, by rw [h2]⟩
    · exact ⟨some x, c, rfl⟩
  have HS := Lib.hid hs
  have HST := Lib.hid hstep
  have HN := Lib.hid hn
  rw [← hn] at hl ⊢
  have H0 := Lib.hid h0
  clear hs hstep hn h0
  go_enter Try.func26, Try.ntmps26
  go_wp2_with fail
  go_loopw [8] (fun i wr => ∃ k : Nat, i = .int .i64 k ∧ k ≤ n ∧ Hid (Pk k wr)) (fun i _ => n - (intOf i).toNat)
  case atStart => exact ⟨0, rfl, Nat.zero_le _, H0.out⟩
  case round =>
    obtain ⟨k, rfl, hk, hp⟩ := hrel
    by_cases hkn : k < n
    · have hki : (k : Int) < n := by omega
      obtain ⟨p, hpk⟩ : ∃ p, fs[k]? = some p := ⟨_, List.getElem?_eq_getElem (by have := HN.out; omega)⟩
      obtain ⟨x, rfl, hc⟩ : ∃ x, a = some x ∧ wr.cell? (x.add k) = some (stV p) := by
        rcases HS.out k wr hp.out with ⟨e, e2, _⟩ | ⟨x, c', e, _, h3⟩
        · exfalso; have := HN.out; omega
        · cases e
          exact ⟨x, rfl, h3 k _ (by rw [List.getElem?_map, hpk]; rfl)⟩
      obtain ⟨eg, hcall⟩ := HST.out k p wr hpk hp.out
      have HCL := Lib.hid hcall
      unfold stV at hc
      obtain ⟨f, b, cs⟩ := p
      dsimp only at hc eg HCL
      clear hpk hcall hp
      go_wp2_with fail
      refine HCL.out.mono ?_; rintro e w2 ⟨rfl, p2⟩
      have P2 := Lib.hid p2
      clear p2 HCL
      go_wp2_with fail
      exact ⟨⟨k + 1, by go_num, by omega, P2.out⟩, by simp [intOf]; omega⟩
    · have hki : ¬ ((k : Int) < n) := by omega
      have hkk : k = n := by omega
      have HP := Lib.hid hp.out
      rw [hkk] at HP
      clear hkk
      go_wp2_with fail
      go_ret
      exact ⟨rfl, HP.out⟩
/-- A journal's block. -/
abbrev JB (w : World) (j d N S C : Nat) : Prop := Blk w j #[.pointer (some ⟨d, 0, none⟩), .string (nmOf false), .int .i64 N, .int .i64 S, .int .i64 C, .bool false] 64
set_option maxRecDepth 100000 in
set_option maxHeartbeats 1000000 in
theorem jBreaks (base j d N S C : Nat) (w : World) (h : JB w j d N S C) (hb : base ≤ j) :
    Calls Try.prog 24 #[.pointer (some ⟨j, 0, none⟩), .int .i64 0] w fun e w' => e = .returned (.int .i64 0) ∧ JB w' j d N S C ∧ TM [64] base w w' := by
  have c5 := h.cell 5
  have f5 := h.frozen 5
  have HR := Lib.hid (And.intro (show JB (w.setCell ⟨j, 5, none⟩ (.bool false)) j d N S C from h.set 5 _) (TM.set (ts := [64]) h hb (by simp) 5 (.bool false)))
  clear h hb
  go_enter Try.func24, Try.ntmps24
  go_wp2_with fail
  go_ret
  exact ⟨rfl, HR.out⟩
/-- A journal and its disk. -/
structure JS (w : World) (base j d : Nat) (F : FileS) (m : Nat) (st wv : Value) (ls : List LT3) (N S C : Nat) : Prop where
  jb : JB w j d N S C
  dk : DK w base d 16777216 m (qNew F) st [m] wv ls
  jge : base ≤ j
theorem JS.new {w w' : World} {base j d m N S C : Nat} {F : FileS} {st wv : Value} {ls : List LT3} (h : JS w base j d F m st wv ls N S C) (hm : Mod (fun _ => False) w w') : JS w' base j d F m st wv ls N S C :=
  ⟨h.jb.mod hm (fun e => e), h.dk.new hm, h.jge⟩
theorem JS.base_lt {w : World} {base j d m N S C : Nat} {F : FileS} {st wv : Value} {ls : List LT3} (h : JS w base j d F m st wv ls N S C) : base ≤ w.heap.size := by
  have h1 := h.jb.lt
  have h2 := h.jge
  omega
theorem qNew_put (F : FileS) (n s : List Nat) : putQ (qNew F) false ⟨F.b, n, s⟩ = qNew ⟨F.b, n, s⟩ := by
  funext p
  unfold putQ qNew
  cases p <;> simp
theorem qNew_false (F : FileS) : qNew F false = some F := rfl
theorem lenq_new (F : FileS) : lenq (qNew F) false + lenq (qNew F) true = F.n.length := by simp [lenq, qNew]
theorem ob_ne {w : World} {base base' : Nat} {u : Value} {r : List Nat} {F : FileS} (h : OB w base' u r) (hf : FK w base F) : ∀ x n c, u = .slice (some x) n c → x.block ≠ F.b := by
  intro x n c e
  rcases h.2 with ⟨h1, _⟩ | ⟨g, cap, cur, hv, _, hh, _⟩
  · rw [h1] at e; cases e
  · rw [hv] at e
    cases e
    obtain ⟨nv, sv, hb, _⟩ := hf.k
    intro e2
    dsimp only at e2
    subst e2
    rw [show w.heap[_]? = _ from hb] at hh
    cases hh
theorem BS.shape {w : World} {v : Value} {bs : List Nat} (h : BS w v bs) : ∃ a c, v = .slice a bs.length c := by
  rcases h.sl with ⟨rfl, h2, _⟩ | ⟨x, c, rfl, _, _⟩
  · rw [h2]; exact ⟨none, 0, rfl⟩
  · exact ⟨some x, c, rfl⟩
set_option maxRecDepth 100000 in
set_option maxHeartbeats 2000000 in
theorem jAppend {base j d m N S : Nat} {w : World} {F : FileS} {st wv u : Value} {r : List Nat} (h : JS w base j d F m st wv [] N S S) (hlen : F.n.length = 32 + S) (hu : BS w u r) (hr : r.length < 128) (hS : S ≤ 100000) :
    Calls Try.prog 9 #[.pointer (some ⟨j, 0, none⟩), u] w fun e w' => e = .returned (.int .i64 0) ∧ (∃ wv' x, JS w' base j d ⟨F.b, F.n ++ (r.length :: r), F.s⟩ m st wv' [(F.b, x)] N (S + (1 + r.length)) S) ∧ TM tJ base w w' := by
  obtain ⟨ua, uc, rfl⟩ := hu.shape
  obtain ⟨k, hk⟩ : ∃ k, k = r.length := ⟨_, rfl⟩
  have HE := Lib.hid (jEncoded _ r w hu hr)
  rw [← hk] at hr HE ⊢
  have HJ := Lib.hid h
  have c5 := h.jb.cell 5
  have HL := Lib.hid hlen
  have HK := Lib.hid hk
  have g1 : ¬ ((4096 : Int) < k) := by omega
  have g2 : IntKind.i64.wrap ((S : Int) + (1 + k)) = (S : Int) + (1 + k) := wrapI (by omega) (by omega)
  have g3 : ¬ ((524288 : Int) < (S : Int) + (1 + k)) := by omega
  obtain ⟨p0, hp0⟩ : ∃ p, p = 32 + S := ⟨_, rfl⟩
  have g4 : IntKind.i64.wrap (32 + (S : Int)) = (p0 : Int) := by rw [wrapI (by omega) (by omega)]; omega
  have HP0 := Lib.hid hp0
  clear h hlen hu hk hp0
  go_enter Try.func9, Try.ntmps9
  go_wp2_with fail
  refine HE.out.mono ?_; rintro e w1 ⟨v1, rfl, o1, m1⟩
  obtain ⟨xa, xc, rfl, _, _⟩ := o1.len
  have J1 := Lib.hid (HJ.out.new m1)
  have M1 := Lib.hid m1
  have O1 := Lib.hid o1
  obtain ⟨L, hL⟩ : ∃ L, L = (k :: r).length := ⟨_, rfl⟩
  have hLk : (L : Int) = 1 + k := by rw [hL, HK.out]; simp; omega
  have HL2 := Lib.hid hL
  rw [← hL] at O1 ⊢
  clear m1 o1 HE HJ c5 hL
  have c3 := J1.out.jb.cell 3
  go_wp2_with fail
  have c0 := J1.out.jb.cell 0
  have c1 := J1.out.jb.cell 1
  have HW := Lib.hid (fun rn => jWrite (w := w1.drewN rn) false F p0 _ (k :: r) (J1.out.dk.drewN rn) (qNew_false F) ((show BS w1 _ _ from (by rw [HL2.out] at O1; exact O1.out.bs)).new ((Mod.refl _ w1).drewN rn)) (ob_ne (F := F) (w := w1) (base := base) (by rw [HL2.out] at O1; exact O1.out) (J1.out.dk.hf false F (qNew_false F)))
    (by rw [HL.out, HP0.out]; exact Nat.le_refl _) (by simp) (by rw [← HL2.out, HP0.out]; omega) (by rw [lenq_new, HL.out, ← HL2.out]; omega) (by simp) J1.out.base_lt)
  rw [← HL2.out] at HW
  clear O1
  refine wp_region2 [] [] (by kernel_rfl) (by kernel_rfl) ?_
  repeat (first | (refine reg_anyT (by rfl) (fun K hK => ?_); go_simp; refine hK _ _ ?_; clear hK K) | (refine reg_read (by rfl) (fun K hK => ?_); go_simp; refine hK _ _ ?_; clear hK K))
  refine reg_eff (by rfl) (fun rn K hK => ?_); go_simp
  refine (HW.out rn).mono ?_; rintro e w2 ⟨rfl, wv', x, d2, t2⟩
  refine hK _ _ ?_; clear hK K
  have T2 := Lib.hid ((TM.new (ts := tD) (base := base) ((Mod.refl (fun _ => False) w1).drewN rn)).trans t2)
  have B2 := Lib.hid (T2.out.blk J1.out.jb (by simp))
  rw [qNew_put] at d2
  have D2 := Lib.hid d2
  have HGE := Lib.hid J1.out.jge
  clear d2 t2 HW c0 c1 c3 J1
  refine reg_eff (by rfl) (fun rn2 K hK => ?_); go_simp
  refine (jBreaks base j d N S S (w2.drewN rn2) B2.out HGE.out).mono ?_; rintro e w3 ⟨rfl, b3, t3⟩
  refine hK _ _ ?_; clear hK K
  repeat (first | (refine reg_anyT (by rfl) (fun K hK => ?_); go_simp; refine hK _ _ ?_; clear hK K) | (refine reg_read (by rfl) (fun K hK => ?_); go_simp; refine hK _ _ ?_; clear hK K))
  refine reg_nil (fun nd => ?_)
  have md := (Mod.refl (fun _ => False) w3).drewN nd
  have m2 := (Mod.refl (fun _ => False) w2).drewN rn2
  have B3 := Lib.hid (show JB (w3.drewN nd) j d N S S from b3.mod md (fun e => e))
  have D3 := Lib.hid (((D2.out.new m2).tm t3 (by simp) (by simp)).new md)
  have T3 := Lib.hid (((((TM.new (ts := tJ) (base := base) M1.out).trans (T2.out.more (by simp))).trans (TM.new m2)).trans (t3.more (by simp))).trans (TM.new md))
  clear md m2 b3 t3 B2 D2 T2 M1
  generalize w3.drewN nd = w4 at *
  have c3 := B3.out.cell 3
  have f3 := B3.out.frozen 3
  have T5 := Lib.hid (TM.set (ts := [64]) B3.out HGE.out (by simp) 3 (.int .i64 ((S : Int) + (1 + k))))
  have B5 : Hid (JB (w4.setCell ⟨j, 3, none⟩ (.int .i64 ((S : Int) + (1 + k)))) j d N (S + (1 + k)) S) := by
    have := B3.out.set 3 (.int .i64 ((S : Int) + (1 + k)))
    show JB _ _ _ _ _ _
    unfold JB
    rw [show ((S + (1 + k) : Nat) : Int) = (S : Int) + (1 + k) by omega]
    exact this
  go_wp2_with fail
  go_ret
  refine ⟨rfl, ⟨wv', x, B5.out, ?_, HGE.out⟩, T3.out.trans (T5.out.more (by simp))⟩
  have h := D3.out.tm T5.out (by simp) (by simp)
  rw [show p0 = F.n.length by rw [HP0.out, HL.out], wr_end] at h
  exact h
end Go.Proofs.Ytdlplablojdjlaa
