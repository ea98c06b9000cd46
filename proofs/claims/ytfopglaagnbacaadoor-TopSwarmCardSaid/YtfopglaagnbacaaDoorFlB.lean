/- Package flight: Done, Ask; no condition. -/
import Derived.Test.YtfopglaagnbacaaDoorFlA
namespace Go.Proofs.YtfopglaagnbacaaDoor.Fl
open Go Go.RowKit

set_option maxRecDepth 100000 in
set_option maxHeartbeats 1000000 in
theorem flDoneYes (k : Int) (r : Rq) (b M : Nat) (most each pat : Int) (ks : List (Int × Rq)) (w : World) (hk : I64 k) (h : TB w b M most each pat ks) (hyes : lkL ks k = some r) :
    Calls Tryd.prog 26 #[.pointer (some ⟨b, 0, none⟩), .int .i64 k] w fun e w' => e = .returned (.tuple #[rqv k r, .int .i64 0]) ∧ TB w' b M most each pat (delL ks k) ∧ Mod (· = M) w w' := by
  have c3 : w.cell? ⟨b, 3, none⟩ = some (.map (some M)) := h.head.cell 3
  have hl : ∀ o, (Instr.lookup 77 (.map (some M)) (.int .i64 k) true).run Tryd.prog (w.alloc o) = .ok (.tuple #[.agg #[.int .i64 r.p, .int .i64 k, .int .i64 r.t], .bool true]) (w.alloc o) := by
    intro o
    have := (h.map.alloc o).lookOk Tryd.underlying3 Tryd.underlying77 (zeroRq _) hk
    rw [lk_mpV, hyes] at this
    exact this
  have hlt := h.lt
  have hz := zeroRq
  obtain ⟨w3, hrun, him, hm3, hz3⟩ := ((h.map.alloc (.cells #[.int .i64 0, .int .i64 0, .int .i64 0] 45)).alloc (.cells #[.int .i64 r.p, .int .i64 k, .int .i64 r.t] 45)).del Tryd.underlying3 Tryd.underlying77 0 hk
  rw [del_mpV] at him
  have hA := ((Blk.new w #[.int .i64 0, .int .i64 0, .int .i64 0] 45).alloc (.cells #[.int .i64 r.p, .int .i64 k, .int .i64 r.t] 45)).mod hm3 (by show ¬ w.heap.size = M; omega)
  have hX := (Blk.new (w.alloc (.cells #[.int .i64 0, .int .i64 0, .int .i64 0] 45)) #[.int .i64 r.p, .int .i64 k, .int .i64 r.t] 45).mod hm3 (by show ¬ (w.alloc _).heap.size = M; simp; omega)
  have hs : (w.alloc (.cells #[.int .i64 0, .int .i64 0, .int .i64 0] 45)).heap.size = w.heap.size + 1 := by simp
  rw [hs] at hX
  have a0 := hA.cell 0; have a1 := hA.cell 1; have a2 := hA.cell 2
  have f0 := hA.frozen 0; have f1 := hA.frozen 1; have f2 := hA.frozen 2
  have d0 : (w3.setCell ⟨w.heap.size, 0, none⟩ (.int .i64 r.p)).cell? ⟨w.heap.size, 0, none⟩ = some (.int .i64 r.p) := (hA.set 0 _).cell 0
  have d1 : ((w3.setCell ⟨w.heap.size, 0, none⟩ (.int .i64 r.p)).setCell ⟨w.heap.size, 1, none⟩ (.int .i64 k)).cell? ⟨w.heap.size, 1, none⟩ = some (.int .i64 k) := ((hA.set 0 _).set 1 _).cell 1
  have d2 : (((w3.setCell ⟨w.heap.size, 0, none⟩ (.int .i64 r.p)).setCell ⟨w.heap.size, 1, none⟩ (.int .i64 k)).setCell ⟨w.heap.size, 2, none⟩ (.int .i64 r.t)).cell? ⟨w.heap.size, 2, none⟩ = some (.int .i64 r.t) := (((hA.set 0 _).set 1 _).set 2 _).cell 2
  have D0 := Lib.hid d0; have D1 := Lib.hid d1; have D2 := Lib.hid d2
  clear d0 d1 d2
  have x0 := hX.cell 0; have x1 := hX.cell 1; have x2 := hX.cell 2
  have hm : Mod (· = M) w w3 := (((Mod.refl (· = M) w).alloc _).alloc _).trans hm3
  have hT : TB w3 b M most each pat (delL ks k) := ⟨h.head.mod hm (fun e => h.ne e.symm), him, h.ne⟩
  have HT := Lib.hid hT
  have HM := Lib.hid hm
  have hB : w.heap.size < w3.heap.size := hA.lt
  clear h hyes hA hX him hm3 hm hT hs hz3
  go_enter Tryd.func26, Tryd.ntmps26
  go_wp2_with fail
  refine bodyPost_ret (v := .tuple #[.agg #[.int .i64 r.p, .int .i64 k, .int .i64 r.t], .int .i64 0]) (by simp [results, Tryd.results26, go_sem, D0.out, D1.out, D2.out]) rfl ⟨rfl, ?_, ?_⟩
  · have hs := ((Mod.refl (fun i => i = w.heap.size) w3).setCell (p := ⟨w.heap.size, 0, none⟩) (.inl rfl) (.int .i64 r.p)).setCell (p := ⟨w.heap.size, 1, none⟩) (.inl rfl) (.int .i64 k)
    exact HT.out.mod (hs.setCell (p := ⟨w.heap.size, 2, none⟩) (.inl rfl) (.int .i64 r.t)) (by show ¬ b = w.heap.size; omega) (by show ¬ M = w.heap.size; omega)
  · exact (((HM.out.setCell (.inr (Nat.le_refl _)) _).setCell (.inr (Nat.le_refl _)) _).setCell (.inr (Nat.le_refl _)) _)

/-- A load whose cell every stage has, though a call of the region makes new memory. -/
theorem reg_load0 {P : Program} {ops : Array Oper} {S : World → Prop} {ov : List (Nat × Nat)} {rd : List FuncId} {Q : World → Act → Prop} {i : Nat} {o : Oper} {rest : List Oper} {w : World} {a : Act}
    (hk : kd ov rd i o = 0) (hw : Region.wanted o (yielded ops a.tmps) = true) (v : Value) (t : TypeId) (x : Operand) (p : Addr) (ho : o.op = .load t x) (hx : a.eval x = .pointer (some p)) (ht : ∀ w, (isAgg t).run P w = .ok false w) (hc : ∀ w, S w → w.cell? p = some v)
    (h : wpReg P ops S ov rd Q (i + 1) rest w (a.put o.dst v)) : wpReg P ops S ov rd Q i (o :: rest) w a := by
  refine reg_any hk fun K hK => ?_
  unfold qOf
  rw [if_pos hw]
  refine ⟨v, fun w' hs => ?_, hK _ _ h⟩
  simp [execOp, ho, hx, Instr.loadAt, Instr.sureAddr, loadVar, load, Sem.run, hc w' hs, ht, Result.andThen, valUpon]

/-- What Ask answers. -/
def askE (most each : Int) (ks : List (Int × Rq)) (p k t : Int) : Int :=
  if ¬ (0 ≤ p ∧ p ≤ 65536 ∧ 0 ≤ k ∧ k ≤ 1023 ∧ 0 ≤ t ∧ t ≤ 1099511627776) then 1
  else if (lkL ks k).isSome then 5
  else if most ≤ (ks.length : Int) ∨ each ≤ (many ks p : Int) then 3
  else 0
/-- What Ask leaves. -/
def askK (most each : Int) (ks : List (Int × Rq)) (p k t : Int) : List (Int × Rq) := if askE most each ks p k t = 0 then putL ks k ⟨p, t⟩ else ks

set_option maxRecDepth 100000 in
set_option maxHeartbeats 2000000 in
theorem flAsk (p k t : Int) (b M : Nat) (most each pat : Int) (ks : List (Int × Rq)) (w : World) (hk : I64 k) (h : TB w b M most each pat ks) (hlen : ks.length ≤ 100000) :
    Calls Tryd.prog 22 #[.pointer (some ⟨b, 0, none⟩), .int .i64 p, .int .i64 k, .int .i64 t] w fun e w' => e = .returned (.int .i64 (askE most each ks p k t)) ∧ TB w' b M most each pat (askK most each ks p k t) ∧ Mod (· = M) w w' := by
  have c3 : w.cell? ⟨b, 3, none⟩ = some (.map (some M)) := h.head.cell 3
  obtain ⟨x, y, z, hx⟩ := rqAt_agg ks k
  have hl : (Instr.lookup 77 (.map (some M)) (.int .i64 k) true).run Tryd.prog w = .ok (.tuple #[.agg #[.int .i64 x, .int .i64 y, .int .i64 z], .bool (lkL ks k).isSome]) w := by
    have := h.map.lookOk Tryd.underlying3 Tryd.underlying77 (zeroRq _) hk
    rw [lk_mpV] at this
    rw [this, ← hx]
    unfold rqAt
    cases lkL ks k <;> rfl
  have hlt := h.lt
  have H := Lib.hid h
  have ma : Mod (fun _ => False) w (w.alloc (.cells #[.int .i64 x, .int .i64 y, .int .i64 z] 45)) := (Mod.refl _ w).alloc _
  have H1 := Lib.hid (h.new ma)
  have MA := Lib.hid (ma.mono (S' := (· = M)) (fun _ _ h => h.elim))
  have HK := Lib.hid hk
  clear h hx ma hk
  by_cases hin : 0 ≤ p ∧ p ≤ 65536 ∧ 0 ≤ k ∧ k ≤ 1023 ∧ 0 ≤ t ∧ t ≤ 1099511627776
  · obtain ⟨i1, i2, i3, i4, i5, i6⟩ := hin
    have e1 : (decide (0 ≤ p) && decide (p ≤ 65536)) = true := by simp [i1, i2]
    have e2 : (decide (0 ≤ k) && decide (k ≤ 1023)) = true := by simp [i3, i4]
    have e3 : (decide (0 ≤ t) && decide (t ≤ 1099511627776)) = true := by simp [i5, i6]
    cases hthere : (lkL ks k).isSome with
    | true =>
      have hE : askE most each ks p k t = 5 := by unfold askE; rw [if_neg (by simp; omega), if_pos hthere]
      have hK : askK most each ks p k t = ks := by unfold askK; rw [hE]; rfl
      rw [hE, hK]
      rw [hthere] at hl
      clear hE hK hthere i1 i2 i3 i4 i5 i6
      go_enter Tryd.func22, Tryd.ntmps22
      go_wp2_with fail
      refine (flWithin _ _ _ _).mono ?_; rw [e1]; rintro e w' ⟨rfl, rfl⟩
      go_wp2_with fail
      refine (flWithin _ _ _ _).mono ?_; rw [e2]; rintro e w' ⟨rfl, rfl⟩
      go_wp2_with fail
      refine (flWithin _ _ _ _).mono ?_; rw [e3]; rintro e w' ⟨rfl, rfl⟩
      go_wp2_with fail
      go_ret
      exact ⟨rfl, H1.out, MA.out⟩
    | false =>
      obtain ⟨w1, hw1⟩ : ∃ w1, w1 = w.alloc (.cells #[.int .i64 x, .int .i64 y, .int .i64 z] 45) := ⟨_, rfl⟩
      have hml := many_le ks p
      have hE : askE most each ks p k t = if most ≤ (ks.length : Int) ∨ each ≤ (many ks p : Int) then 3 else 0 := by
        unfold askE; rw [if_neg (by simp; omega), if_neg (by simp [hthere])]
      have HE := Lib.hid hE
      rw [hthere] at hl
      clear hE hthere i1 i2 i3 i4 i5 i6
      rw [← hw1] at H1 MA
      have c0 : w1.cell? ⟨b, 0, none⟩ = some (.int .i64 most) := H1.out.head.cell 0
      have c1 : w1.cell? ⟨b, 1, none⟩ = some (.int .i64 each) := H1.out.head.cell 1
      have c31 : w1.cell? ⟨b, 3, none⟩ = some (.map (some M)) := H1.out.head.cell 3
      have hln : ∀ n, (Builtin.len_ #[77] 3 #[.map (some M)]).run Tryd.prog (w1.drewN n) = .ok (.int .i64 (ks.length : Int)) (w1.drewN n) := by
        intro n
        have := (H1.out.drewN n).map.len (T := 77) Tryd.underlying77 3
        rw [len_mpV] at this
        exact this
      have HL := Lib.hid hlen
      by_cases hfull : most ≤ (ks.length : Int)
      · have hE3 : askE most each ks p k t = 3 := by rw [HE.out, if_pos (.inl hfull)]
        have hK3 : askK most each ks p k t = ks := by unfold askK; rw [hE3]; rfl
        rw [hE3, hK3]
        have ef : decide (most ≤ (ks.length : Int)) = true := by simpa using hfull
        clear hE3 hK3 HE hml hlen
        generalize (ks.length : Int) = L at hln hfull ef
        go_enter Tryd.func22, Tryd.ntmps22
        go_wp2_with fail
        refine (flWithin _ _ _ _).mono ?_; rw [e1]; rintro e w' ⟨rfl, rfl⟩
        go_wp2_with fail
        refine (flWithin _ _ _ _).mono ?_; rw [e2]; rintro e w' ⟨rfl, rfl⟩
        go_wp2_with fail
        refine (flWithin _ _ _ _).mono ?_; rw [e3]; rintro e w' ⟨rfl, rfl⟩
        rw [← hw1]
        clear hw1 hl c3 e1 e2 e3
        go_wp2_with fail
        refine wp_region2 [(17, 0)] [] (by kernel_rfl) (by kernel_rfl) ?_
        repeat (first | (refine reg_anyT (by rfl) (fun K hK => ?_); go_simp; refine hK _ _ ?_; clear hK K) | (refine reg_read (by rfl) (fun K hK => ?_); go_simp; refine hK _ _ ?_; clear hK K))
        refine reg_eff (by rfl) (fun rn K hK => ?_); go_simp; refine hK _ _ ?_; clear hK K
        repeat (first | (refine reg_anyT (by rfl) (fun K hK => ?_); go_simp; refine hK _ _ ?_; clear hK K) | (refine reg_read (by rfl) (fun K hK => ?_); go_simp; refine hK _ _ ?_; clear hK K))
        repeat (first | (refine reg_anyT (by rfl) (fun K hK => ?_); go_simp; refine hK _ _ ?_; clear hK K) | (refine reg_read (by rfl) (fun K hK => ?_); go_simp; refine hK _ _ ?_; clear hK K))
        refine reg_nil (fun nd => ?_)
        go_wp2_with fail
        go_ret
        exact ⟨rfl, (H1.out.drewN _).drewN _, (MA.out.drewN _).drewN _⟩
      · have ef : decide (most ≤ (ks.length : Int)) = false := by simpa using hfull
        by_cases hea : each ≤ (many ks p : Int)
        · have hE3 : askE most each ks p k t = 3 := by rw [HE.out, if_pos (.inr hea)]
          have hK3 : askK most each ks p k t = ks := by unfold askK; rw [hE3]; rfl
          rw [hE3, hK3]
          have eg : decide (each ≤ (many ks p : Int)) = true := by simpa using hea
          clear hE3 hK3 HE hml hlen
          generalize (ks.length : Int) = L at hln hfull ef
          go_enter Tryd.func22, Tryd.ntmps22
          go_wp2_with fail
          refine (flWithin _ _ _ _).mono ?_; rw [e1]; rintro e w' ⟨rfl, rfl⟩
          go_wp2_with fail
          refine (flWithin _ _ _ _).mono ?_; rw [e2]; rintro e w' ⟨rfl, rfl⟩
          go_wp2_with fail
          refine (flWithin _ _ _ _).mono ?_; rw [e3]; rintro e w' ⟨rfl, rfl⟩
          rw [← hw1]
          clear hw1 hl c3 e1 e2 e3
          go_wp2_with fail
          obtain ⟨S, hS⟩ : ∃ S : World → Prop, S = fun w' => w'.cell? ⟨b, 1, none⟩ = some (.int .i64 each) := ⟨_, rfl⟩
          refine wp_regionS [(17, 0)] [] S (by kernel_rfl) (by kernel_rfl) (by subst hS; intro n; exact c1) ?_
          repeat (first | (refine reg_anyT (by rfl) (fun K hK => ?_); go_simp; refine hK _ _ ?_; clear hK K) | (refine reg_read (by rfl) (fun K hK => ?_); go_simp; refine hK _ _ ?_; clear hK K))
          refine reg_effS (by rfl) (fun rn K hK => ?_); go_simp
          refine (flMany _ _ _ _ _ _ _ _ (H1.out.drewN rn) HL.out).mono ?_; rintro e w2 ⟨rfl, y1⟩
          refine hK _ _ ⟨fun m => by subst hS; exact (H1.out.new y1.undrew).head.cell 1, ?_⟩; clear hK K
          repeat (first | (refine reg_anyT (by rfl) (fun K hK => ?_); go_simp; refine hK _ _ ?_; clear hK K) | (refine reg_read (by rfl) (fun K hK => ?_); go_simp; refine hK _ _ ?_; clear hK K))
          refine reg_load0 (by rfl) (by rfl) (.int .i64 each) _ _ _ rfl rfl Tryd.isAgg3 (by subst hS; exact fun _ h => h) ?_
          repeat (first | (refine reg_anyT (by rfl) (fun K hK => ?_); go_simp; refine hK _ _ ?_; clear hK K) | (refine reg_read (by rfl) (fun K hK => ?_); go_simp; refine hK _ _ ?_; clear hK K))
          refine reg_nil (fun nd => ?_)
          go_wp2_with fail
          go_ret
          exact ⟨rfl, (H1.out.new y1.undrew).drewN _, (MA.out.trans (y1.undrew.mono (fun _ _ h => h.elim))).drewN _⟩
        · have hE0 : askE most each ks p k t = 0 := by rw [HE.out, if_neg (by simp only [not_or]; exact ⟨hfull, hea⟩)]
          have hK0 : askK most each ks p k t = putL ks k ⟨p, t⟩ := by unfold askK; rw [if_pos hE0]
          rw [hE0, hK0]
          have eg : decide (each ≤ (many ks p : Int)) = false := by simpa using hea
          clear hE0 hK0 HE hml hlen
          generalize (ks.length : Int) = L at hln hfull ef
          go_enter Tryd.func22, Tryd.ntmps22
          go_wp2_with fail
          refine (flWithin _ _ _ _).mono ?_; rw [e1]; rintro e w' ⟨rfl, rfl⟩
          go_wp2_with fail
          refine (flWithin _ _ _ _).mono ?_; rw [e2]; rintro e w' ⟨rfl, rfl⟩
          go_wp2_with fail
          refine (flWithin _ _ _ _).mono ?_; rw [e3]; rintro e w' ⟨rfl, rfl⟩
          rw [← hw1]
          clear hw1 hl c3 e1 e2 e3
          go_wp2_with fail
          obtain ⟨S, hS⟩ : ∃ S : World → Prop, S = fun w' => w'.cell? ⟨b, 1, none⟩ = some (.int .i64 each) := ⟨_, rfl⟩
          refine wp_regionS [(17, 0)] [] S (by kernel_rfl) (by kernel_rfl) (by subst hS; intro n; exact c1) ?_
          repeat (first | (refine reg_anyT (by rfl) (fun K hK => ?_); go_simp; refine hK _ _ ?_; clear hK K) | (refine reg_read (by rfl) (fun K hK => ?_); go_simp; refine hK _ _ ?_; clear hK K))
          refine reg_effS (by rfl) (fun rn K hK => ?_); go_simp
          refine (flMany _ _ _ _ _ _ _ _ (H1.out.drewN rn) HL.out).mono ?_; rintro e w2 ⟨rfl, y1⟩
          refine hK _ _ ⟨fun m => by subst hS; exact (H1.out.new y1.undrew).head.cell 1, ?_⟩; clear hK K
          repeat (first | (refine reg_anyT (by rfl) (fun K hK => ?_); go_simp; refine hK _ _ ?_; clear hK K) | (refine reg_read (by rfl) (fun K hK => ?_); go_simp; refine hK _ _ ?_; clear hK K))
          refine reg_load0 (by rfl) (by rfl) (.int .i64 each) _ _ _ rfl rfl Tryd.isAgg3 (by subst hS; exact fun _ h => h) ?_
          repeat (first | (refine reg_anyT (by rfl) (fun K hK => ?_); go_simp; refine hK _ _ ?_; clear hK K) | (refine reg_read (by rfl) (fun K hK => ?_); go_simp; refine hK _ _ ?_; clear hK K))
          refine reg_nil (fun nd => ?_)
          have H3 := Lib.hid ((H1.out.new y1.undrew).drewN nd)
          have M3 := Lib.hid ((MA.out.trans (y1.undrew.mono (fun _ _ h => h.elim))).drewN nd)
          generalize w2.drewN nd = w3 at H3 M3 ⊢
          have c33 : w3.cell? ⟨b, 3, none⟩ = some (.map (some M)) := H3.out.head.cell 3
          obtain ⟨w4, hrun, him, hm4, hz4⟩ := H3.out.map.put Tryd.underlying3 Tryd.underlying77 (by rw [len_mpV]; have := HL.out; unfold maxLen; omega) HK.out (rqv k ⟨p, t⟩)
          rw [put_mpV] at him
          have H4 : TB w4 b M most each pat (putL ks k ⟨p, t⟩) := ⟨H3.out.head.mod hm4 (fun e => H3.out.ne e.symm), him, H3.out.ne⟩
          have H4' := Lib.hid H4
          have M4 := Lib.hid (M3.out.trans hm4)
          unfold rqv at hrun
          clear y1 c0 c1 c31 him hm4 hz4 H4 hln
          go_wp2_with fail
          go_ret
          exact ⟨rfl, H4'.out, M4.out⟩
  · have hE : askE most each ks p k t = 1 := by unfold askE; rw [if_pos hin]
    have hK : askK most each ks p k t = ks := by unfold askK; rw [hE]; rfl
    rw [hE, hK]
    clear hE hK
    by_cases a1 : 0 ≤ p ∧ p ≤ 65536
    · have e1 : (decide (0 ≤ p) && decide (p ≤ 65536)) = true := by simp [a1.1, a1.2]
      by_cases a2 : 0 ≤ k ∧ k ≤ 1023
      · have e2 : (decide (0 ≤ k) && decide (k ≤ 1023)) = true := by simp [a2.1, a2.2]
        have e3 : (decide (0 ≤ t) && decide (t ≤ 1099511627776)) = false := by
          rw [Bool.and_eq_false_iff, decide_eq_false_iff_not, decide_eq_false_iff_not]; omega
        clear hin a1 a2
        go_enter Tryd.func22, Tryd.ntmps22
        go_wp2_with fail
        refine (flWithin _ _ _ _).mono ?_; rw [e1]; rintro e w' ⟨rfl, rfl⟩
        go_wp2_with fail
        refine (flWithin _ _ _ _).mono ?_; rw [e2]; rintro e w' ⟨rfl, rfl⟩
        go_wp2_with fail
        refine (flWithin _ _ _ _).mono ?_; rw [e3]; rintro e w' ⟨rfl, rfl⟩
        go_wp2_with fail
        go_ret
        exact ⟨rfl, H1.out, MA.out⟩
      · have e2 : (decide (0 ≤ k) && decide (k ≤ 1023)) = false := by
          rw [Bool.and_eq_false_iff, decide_eq_false_iff_not, decide_eq_false_iff_not]; omega
        clear hin a1 a2
        go_enter Tryd.func22, Tryd.ntmps22
        go_wp2_with fail
        refine (flWithin _ _ _ _).mono ?_; rw [e1]; rintro e w' ⟨rfl, rfl⟩
        go_wp2_with fail
        refine (flWithin _ _ _ _).mono ?_; rw [e2]; rintro e w' ⟨rfl, rfl⟩
        go_wp2_with fail
        go_ret
        exact ⟨rfl, H1.out, MA.out⟩
    · have e1 : (decide (0 ≤ p) && decide (p ≤ 65536)) = false := by
        rw [Bool.and_eq_false_iff, decide_eq_false_iff_not, decide_eq_false_iff_not]; omega
      clear hin a1
      go_enter Tryd.func22, Tryd.ntmps22
      go_wp2_with fail
      refine (flWithin _ _ _ _).mono ?_; rw [e1]; rintro e w' ⟨rfl, rfl⟩
      go_wp2_with fail
      go_ret
      exact ⟨rfl, H1.out, MA.out⟩
end Go.Proofs.YtfopglaagnbacaaDoor.Fl
