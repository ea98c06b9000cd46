/- Texts of this claim, laid together by a program of its own: CoJ, CoS, CoO, CoW, CoX. Each says in its first row what it proves. -/
import Derived.Lib.SmallJoins
import Derived.WideKeyPair
import Derived.ProofKit
import Derived.OpenShut
import Derived.Test.YtjmfhcliggjdgaaGreatDoorQ6
/- Plain laws of conn: what Next and Fall leave; no condition. -/
namespace Go.Proofs.YtjmfhcliggjdgaaGreatDoor
open Go Go.RowKit

/-- What one more request is. -/
theorem askS_some {n : Nat} {mo ea : Int} {L : LB} {f : Nat → Bool} {now seed p : Int} {st st' : LT × LT} (h : askS n mo ea L f now seed p st = some st') :
    ∃ x : Nat, x < n ∧ (∃ o, lkL L p = some o ∧ o x = true) ∧ outF n f st.1 x = false ∧ Fl.askE mo ea st.1 p x now = 0 ∧ st' = (putL st.1 (x : Int) ⟨p, now⟩, st.2 ++ [((x : Int), ⟨p, now⟩)]) := by
  unfold askS pkS at h
  obtain ⟨k, hk⟩ : ∃ k, k = pickA n L p (some (n, outF n f st.1)) (IntKind.u64.wrap (seed + st.2.length)) := ⟨_, rfl⟩
  rw [← hk] at h
  have hs := pickA_spec n L p (IntKind.u64.wrap (seed + st.2.length)) (outF n f st.1)
  rw [← hk] at hs
  unfold askAt at h
  split at h
  · cases h
  · rename_i hk0
    split at h
    · rename_i he
      rcases hs with ⟨e, _⟩ | ⟨x, e, h1, h2, h3⟩
      · exfalso; omega
      · rw [e] at h he
        cases h
        exact ⟨x, h1, h2, h3, he, rfl⟩
    · cases h
theorem runS_ind {n : Nat} {mo ea : Int} {L : LB} {f : Nat → Bool} {now seed p : Int} {P : LT × LT → Prop} (hstep : ∀ st st', P st → askS n mo ea L f now seed p st = some st' → P st') : ∀ m st, P st → P (runS n mo ea L f now seed p m st)
  | 0, _, h => h
  | m + 1, st, h => by
    cases ha : askS n mo ea L f now seed p st with
    | none => rw [runS_none ha]; exact h
    | some st' => rw [runS_some ha]; exact runS_ind hstep m st' (hstep st st' h ha)
theorem nextS_ind {n : Nat} {mo ea : Int} {L : LB} {f : Nat → Bool} {now seed : Int} {may : List Int} {P : LT × LT → Prop} : ∀ (ps : List Int) (_ : ∀ p, p ∈ ps → p ∈ may → ∀ st st', P st → askS n mo ea L f now seed p st = some st' → P st') (st : LT × LT), P st → P (nextS n mo ea L f now seed may ps st)
  | [], _, _, h => h
  | p :: ps, hstep, st, h => by
    refine nextS_ind ps (fun q hq => hstep q (List.mem_cons_of_mem _ hq)) _ ?_
    by_cases hp : p ∈ may
    · rw [if_pos hp]
      exact runS_ind (hstep p (List.mem_cons_self ..) hp) 300 st h
    · rw [if_neg hp]; exact h
theorem InvS.step {n : Nat} {mo ea : Int} {L : LB} {f : Nat → Bool} {now seed p : Int} {st st' : LT × LT} (h : InvS n mo ea st) (ha : askS n mo ea L f now seed p st = some st') : InvS n mo ea st' := by
  obtain ⟨x, hx, _, _, he, rfl⟩ := askS_some ha
  obtain ⟨T, l⟩ := st
  exact h.ask hx he
theorem nextA_inv {n : Nat} {mo ea : Int} {L : LB} {now : Int} {x : Option (Nat × (Nat → Bool))} {may : List Int} {seed : Int} {T : LT} (hok : Fl.Okk mo ea T) (hkn : ∀ q ∈ T, q.1 < (n : Int)) (hmo : mo ≤ 256) :
    Fl.Okk mo ea (nextA n mo ea L now x may seed T).1 ∧ (∀ q ∈ (nextA n mo ea L now x may seed T).1, q.1 < (n : Int)) ∧ (nextA n mo ea L now x may seed T).2.1.length ≤ 256 := by
  unfold nextA
  split
  · have h := nextS_ind (P := InvS n mo ea) (keysL L) (fun p _ _ st st' h ha => h.step ha) (T, []) ⟨hok, hkn, Nat.zero_le _⟩ (L := L) (f := (x.getD (0, fun _ => false)).2) (now := now) (seed := seed) (may := may)
    refine ⟨h.ok, h.kn, ?_⟩
    have h1 := h.ll
    have h2 := h.ok.len
    dsimp only
    omega
  · exact ⟨hok, hkn, Nat.zero_le _⟩
theorem fallR_ind {mo ea now : Int} {F : Nat → Bool} {n : Nat} {P : LT × LT → Prop} (hstep : ∀ i, i < n → F i = false → ∀ T l, P (T, l) → Fl.askE mo ea T 0 i now = 0 → P (putL T (i : Int) ⟨0, now⟩, l ++ [((i : Int), ⟨0, now⟩)])) : ∀ (m k : Nat) (T l : LT), k + m = n → P (T, l) → P (fallR mo ea now F m k T l)
  | 0, _, _, _, _, h => h
  | m + 1, k, T, l, hk, h => by
    show P (if F k = true then fallR mo ea now F m (k + 1) T l else if Fl.askE mo ea T 0 k now = 0 then fallR mo ea now F m (k + 1) (putL T k ⟨0, now⟩) (l ++ [((k : Int), ⟨0, now⟩)]) else (T, l))
    split
    · exact fallR_ind hstep m (k + 1) T l (by omega) h
    · rename_i hF
      split
      · rename_i he
        exact fallR_ind hstep m (k + 1) _ _ (by omega) (hstep k (by omega) (by simpa using hF) T l h he)
      · exact h
theorem fallA_inv {n : Nat} {mo ea now : Int} {x : Option (Nat × (Nat → Bool))} {T : LT} (hok : Fl.Okk mo ea T) (hkn : ∀ q ∈ T, q.1 < (n : Int)) (hmo : mo ≤ 256) :
    Fl.Okk mo ea (fallA n mo ea now x T).1 ∧ (∀ q ∈ (fallA n mo ea now x T).1, q.1 < (n : Int)) ∧ (fallA n mo ea now x T).2.1.length ≤ 256 := by
  unfold fallA
  split
  · have h := fallR_ind (P := InvS n mo ea) (n := n) (F := outF n (x.getD (0, fun _ => false)).2 T) (now := now) (fun i hi _ T l h he => h.ask hi he) n 0 T [] (by omega) ⟨hok, hkn, Nat.zero_le _⟩
    refine ⟨h.ok, h.kn, ?_⟩
    have h1 := h.ll
    have h2 := h.ok.len
    dsimp only
    omega
  · exact ⟨hok, hkn, Nat.zero_le _⟩

/-- A step. -/
structure Sc where
  d : Int
  p : Int
  n : Int
  now : Int
  a : Option Addr
  len : Nat
  cap : Nat
  bs : List Nat
  ma : Option Addr
  ml : Nat
  mc : Nat
  may : List Int
  z : Int
instance : Inhabited Sc := ⟨⟨0, 0, 0, 0, none, 0, 0, [], none, 0, 0, [], 0⟩⟩
def spC (s : Sc) : Array Value := #[.int .i64 s.d, .int .i64 s.p, .int .i64 s.n, .int .i64 s.now, .slice s.a s.len s.cap, .slice s.ma s.ml s.mc, .int .u64 s.z]
structure OkSc (B0 : Nat) (w : World) (s : Sc) : Prop where
  sl : Sl w (.slice s.a s.len s.cap) 1 s.len (byts s.bs)
  by8 : ∀ x ∈ s.bs, x < 256
  may : Sl w (.slice s.ma s.ml s.mc) 1 s.ml (intL s.may)
  mlow : ∀ x m c, Value.slice s.ma s.ml s.mc = .slice (some x) m c → 0 < s.ml → x.block < B0
  i : I64 s.p ∧ I64 s.n
theorem OkSc.new {B0 : Nat} {w w' : World} {s : Sc} (h : OkSc B0 w s) (hm : Mod (fun _ => False) w w') : OkSc B0 w' s := ⟨h.sl.mod hm (fun _ _ _ _ h => h), h.by8, h.may.mod hm (fun _ _ _ _ h => h), h.mlow, h.i⟩
/-- What a step leaves. -/
def stepC (n : Nat) (pm mo ea pa : Int) (L : LB) (T : LT) (s : Sc) : LB × LT :=
  if s.d = 0 then ((setA n pm L s.p (setsX s.n s.bs)).2, T)
  else if s.d = 1 then ((addA n L s.p s.n).2, T)
  else if s.d = 2 then ((goneA L s.p).2, goneT L s.p T)
  else if s.d = 3 then (L, (nextA n mo ea L s.now (setsX s.n s.bs) s.may s.z T).1)
  else if s.d = 4 then (L, (fallA n mo ea s.now (setsX s.n s.bs) T).1)
  else if s.d = 5 then (L, overT T s.p s.n)
  else (L, lateT pa s.now T)
/-- What holds of what is known. -/
structure OkLT (n : Nat) (pm mo ea : Int) (L : LB) (T : LT) : Prop where
  ok : OkB pm L
  okt : Fl.Okk mo ea T
  kn : ∀ q ∈ T, q.1 < (n : Int)
theorem OkLT.step {n : Nat} {pm mo ea : Int} (pa : Int) {L : LB} {T : LT} (h : OkLT n pm mo ea L T) (hmo : mo ≤ 256) (s : Sc) : OkLT n pm mo ea (stepC n pm mo ea pa L T s).1 (stepC n pm mo ea pa L T s).2 := by
  have hf : ∀ φ : Int × Fl.Rq → Bool, OkLT n pm mo ea L (T.filter φ) := fun φ => ⟨h.ok, h.okt.filter φ, fun q hq => h.kn q (List.mem_filter.1 hq).1⟩
  unfold stepC
  split
  · exact ⟨h.ok.set _ _, h.okt, h.kn⟩
  split
  · exact ⟨h.ok.add _ _, h.okt, h.kn⟩
  split
  · refine ⟨h.ok.gone _, ?_, ?_⟩
    · dsimp only; unfold goneT; split
      · exact (hf _).okt
      · exact h.okt
    · dsimp only; unfold goneT; split
      · exact (hf _).kn
      · exact h.kn
  split
  · have := nextA_inv (L := L) (now := s.now) (x := setsX s.n s.bs) (may := s.may) (seed := s.z) h.okt h.kn hmo
    exact ⟨h.ok, this.1, this.2.1⟩
  split
  · have := fallA_inv (now := s.now) (x := setsX s.n s.bs) h.okt h.kn hmo
    exact ⟨h.ok, this.1, this.2.1⟩
  split
  · refine ⟨h.ok, ?_, ?_⟩
    · dsimp only; unfold overT; split
      · exact (hf _).okt
      · exact h.okt
    · dsimp only; unfold overT; split
      · exact (hf _).kn
      · exact h.kn
  · refine ⟨h.ok, ?_, ?_⟩
    · dsimp only; unfold lateT; split
      · exact (hf _).okt
      · exact h.okt
    · dsimp only; unfold lateT; split
      · exact (hf _).kn
      · exact h.kn
theorem StW.drew {w w' : World} {r b base t tb n : Nat} {pm mo ea pa : Int} {ks : List (Int × Rp)} {L1 : LB} {T1 : LT} {k : Nat} (h : StW r b base t tb n pm mo ea pa ks L1 T1 (w.drewN k) w') (j : Nat) : StW r b base t tb n pm mo ea pa ks L1 T1 w (w'.drewN j) := by
  obtain ⟨k2, h1, e, m, hn⟩ := h
  exact ⟨k2, h1.new ((Mod.refl _ w').drewN j), e, m.undrew.drewN j, fun i hi => hn i hi⟩
end Go.Proofs.YtjmfhcliggjdgaaGreatDoor

/- The laws on conn: a step at both swarms; no condition but the table. -/
namespace Go.Proofs.YtjmfhcliggjdgaaGreatDoor
open Go Go.RowKit

abbrev TSc : TypeId := 28
/-- Late of the reference, whatever it answers. -/
theorem refLateA (q : Int) (t tb : Nat) (mo ea pa : Int) (T : LT) (w : World) (h : Fl.RT w t tb mo ea pa T) (hb : tb ≤ w.heap.size) (hlt : T.length ≤ 256) (htt : ∀ q ∈ T, 0 ≤ q.2.t ∧ q.2.t ≤ 1099511627776) :
    Calls Tryz.prog 23 #[.pointer (some ⟨t, 0, none⟩), .int .i64 q] w fun e w' => RqE (lateL pa q T) (lateE q) w e w' ∧ Fl.StepT t tb mo ea pa (lateT pa q T) w w' := by
  by_cases hq : 0 ≤ q ∧ q ≤ 1099511627776
  · have e1 : lateL pa q T = T.filter (fun x => decide (pa ≤ q - x.2.t)) := by unfold lateL; rw [if_pos hq]
    have e2 : lateT pa q T = T.filter (fun x => !decide (pa ≤ q - x.2.t)) := by unfold lateT; rw [if_pos hq]
    have e3 : lateE q = 0 := by unfold lateE; rw [if_pos hq]
    rw [e1, e2, e3]
    refine (Fl.refLate q t tb mo ea pa T w h (by omega) hq htt).mono ?_
    rintro e w1 ⟨⟨v, rfl, h1⟩, h2, m2⟩
    exact ⟨⟨v, rfl, h1⟩, Fl.StepT.fresh h hb h2 m2⟩
  · have e1 : lateL pa q T = [] := by unfold lateL; rw [if_neg hq]
    have e2 : lateT pa q T = T := by unfold lateT; rw [if_neg hq]
    have e3 : lateE q = 1 := by unfold lateE; rw [if_neg hq]
    rw [e1, e2, e3]
    refine (Fl.refLateBad q t w hq).mono ?_
    rintro e w1 ⟨rfl, rfl⟩
    exact ⟨⟨_, rfl, World.ownsRow_nil _ _ _ _⟩, Fl.StepT.same h (Mod.refl _ _)⟩
theorem TwoS.new {w w' : World} {B0 s r n : Nat} {pm mo ea pa : Int} {L : LB} {T : LT} (h : TwoS w B0 s r n pm mo ea pa L T) (hm : Mod (fun _ => False) w w') : TwoS w' B0 s r n pm mo ea pa L T := by
  obtain ⟨b, M, g, t, tM, ks, b', base, t', tb, ks', h⟩ := h
  exact ⟨b, M, g, t, tM, ks, b', base, t', tb, ks', h.new hm⟩
set_option maxRecDepth 100000 in
set_option maxHeartbeats 4000000 in
theorem stepC0 (q : Sc) (B0 s b M g t tM : Nat) (ks : List (Int × Ow)) (r b' base t' tb : Nat) (ks' : List (Int × Rp)) (n : Nat) (pm mo ea pa : Int) (L : LB) (T : LT) (w : World) (h : TwoC w B0 s b M g t tM ks r b' base t' tb ks' n pm mo ea pa L T) (ho : OkSc B0 w q) (hd : q.d = 0) :
    Calls Tryz.prog 10 #[.pointer (some ⟨s, 0, none⟩), .pointer (some ⟨r, 0, none⟩), .agg (spC q)] w fun e w' => e = .returned (.bool true) ∧ TwoS w' B0 s r n pm mo ea pa (stepC n pm mo ea pa L T q).1 (stepC n pm mo ea pa L T q).2 ∧ Mod (fun i => B0 ≤ i) w w' := by
  have m1 := (Mod.refl (fun _ => False) w).alloc (.cells (spC q) TSc)
  have T1 := Lib.hid (h.new m1)
  have O1 := Lib.hid (ho.new m1)
  have X1 := Lib.hid (Blk.new w (spC q) TSc)
  have HOK : Hid (OkLT n pm mo ea (stepC n pm mo ea pa L T q).1 (stepC n pm mo ea pa L T q).2) := OkLT.step pa ⟨h.ok, h.okt, h.kn⟩ h.sm.2.2.2.1 q
  have M1 := Lib.hid (m1.mono (S' := fun i => B0 ≤ i) fun _ _ e => e.elim)
  have HB : Hid (∀ i, SWb s b M g t tM ks i → i < w.heap.size) := fun i hi => h.sw.lt hi
  have HB0 : Hid (B0 ≤ w.heap.size) := Nat.le_of_lt (Nat.lt_of_le_of_lt (h.low s (.inl (.inl rfl))) h.sw.blk.lt)
  clear h m1 ho
  obtain ⟨d, p, n', now, a, len, cap, bs, ma, ml, mc, may, z⟩ := q
  obtain ⟨L1, hL1⟩ : ∃ x, x = stepC n pm mo ea pa L T ⟨d, p, n', now, a, len, cap, bs, ma, ml, mc, may, z⟩ := ⟨_, rfl⟩
  rw [← hL1] at HOK ⊢
  unfold stepC at hL1
  dsimp only [spC] at *
  have HL1 := Lib.hid hL1
  clear hL1
  have e0 : (d == 0) = true := by simpa using hd
  have HE : Hid (L1 = ((setA n pm L p (setsX n' bs)).2, T)) := by show _ = _; rw [HL1.out, if_pos hd]
  clear hd HL1
  go_enter Tryz.func10, Tryz.ntmps10
  go_upto_region 1 with fail
  generalize w.alloc (.cells #[.int .i64 d, .int .i64 p, .int .i64 n', .int .i64 now, .slice a len cap, .slice ma ml mc, .int .u64 z] TSc) = w1 at *
  obtain ⟨B, hB⟩ : ∃ B, B = w.heap.size := ⟨_, rfl⟩
  rw [← hB] at X1 HB HB0 ⊢
  clear hB
  have c0 := X1.out.cell 0; have c1 := X1.out.cell 1; have c2 := X1.out.cell 2; have c3 := X1.out.cell 3; have c4 := X1.out.cell 4; have c5 := X1.out.cell 5; have c6 := X1.out.cell 6
  have HS := Lib.hid (setsAll n' a len cap bs w1 O1.out.sl O1.out.by8)
  go_wp2_with fail
  refine HS.out.mono ?_; rintro e w2 ⟨so, ro, rfl, s1, s2, m2⟩
  have T2 := Lib.hid (T1.out.new m2)
  have X2 := Lib.hid (X1.out.mod m2 (fun h => h))
  have O2 := Lib.hid (O1.out.new m2)
  have hlo : ∀ i, SWb s b M g t tM ks i ∨ RWb w2 r b' t' ks' i → i < w1.heap.size := fun i hi => hi.elim (fun e => T1.out.sw.lt e) fun e => T1.out.rw'.lt ((T1.out.rw'.modB m2 fun _ _ h => h).2 i e)
  have HLO := Lib.hid hlo
  have HSB := Lib.hid s1
  have HSR := Lib.hid s2
  have M2 := Lib.hid (M1.out.trans (m2.mono (S' := fun i => B0 ≤ i) fun _ _ e => e.elim))
  clear m2 s1 s2 c0 c1 c2 c3 c4 c5 c6 X1 HS M1 T1 O1 hlo
  have c0 := X2.out.cell 0
  have HC := Lib.hid (connBits p so (setsX n' bs) s b M g t tM n pm mo ea pa ks L T w2 T2.out.sw T2.out.e1 T2.out.tab.1 T2.out.len.1 T2.out.sm.1.2.2 O2.out.i.1 HSB.out (fun i e => HLO.out i (.inl (.inr (.inl e)))))
  have c1 := X2.out.cell 1
  go_wp2_with fail
  refine HC.out.mono ?_; rintro e w3 ⟨rfl, h3⟩
  have hlw : ∀ i, SWb s b M g t tM ks i ∨ RWb w2 r b' t' ks' i → B0 ≤ i := T2.out.low
  have HLW := Lib.hid hlw
  clear hlw
  obtain ⟨k3, _, _, m3, _⟩ := id h3
  have hr3 := T2.out.mid m3
  have X3 := Lib.hid (X2.out.mod m3 (fun e => by have := HB.out _ e; omega))
  have HSR3 := Lib.hid (HSR.out.mod m3 (fun i e => HLO.out i (.inl e)))
  have HR3 := Lib.hid hr3
  have M3 := Lib.hid m3
  have H3 := Lib.hid h3
  clear h3 m3 hr3
  have HF := Lib.hid (fun rn => refSet p ro (setsX n' bs) b' base n pm ks' L (w3.drewN rn) (HR3.out.1.rd.drewN rn) T2.out.e2 T2.out.rise.2 T2.out.len.2.1 T2.out.sm.1.2 HR3.out.1.hb.1 (HSR3.out.mod (S := fun _ => False) ((Mod.refl _ w3).drewN rn) fun _ e => e.elim))
  clear c0 c1 X2 HC HSR HSB
  have c1 := X3.out.cell 1
  have r0 := HR3.out.1.at.1
  go_wp2_with fail
  refine wp_region2 [] [] (by kernel_rfl) (by kernel_rfl) ?_
  repeat (first | (refine reg_anyT (by rfl) (fun K hK => ?_); go_simp; refine hK _ _ ?_; clear hK K) | (refine reg_read (by rfl) (fun K hK => ?_); go_simp; refine hK _ _ ?_; clear hK K))
  refine reg_eff (by rfl) (fun rn K hK => ?_); go_simp
  refine (HF.out rn).mono ?_; rintro e w' ⟨rfl, h4⟩
  refine hK _ _ ?_; clear hK K
  repeat (first | (refine reg_anyT (by rfl) (fun K hK => ?_); go_simp; refine hK _ _ ?_; clear hK K) | (refine reg_read (by rfl) (fun K hK => ?_); go_simp; refine hK _ _ ?_; clear hK K))
  refine reg_nil (fun nd => ?_)
  have h4 := (StW.board (HR3.out.1.new ((Mod.refl _ w3).drewN rn)) h4).drew nd
  have hok := HOK.out
  rw [HE.out] at hok
  have hb := T2.out.both H3.out h4 hok.ok hok.okt hok.kn
  have HH := Lib.hid hb
  clear hb h4 hok
  clear c1 r0
  generalize World.drewN w' nd = w4 at *
  go_wp2_with fail
  go_ret
  exact ⟨by simp, by rw [HE.out]; exact HH.out.1, M2.out.trans HH.out.2⟩
set_option maxRecDepth 100000 in
set_option maxHeartbeats 4000000 in
theorem stepC1 (q : Sc) (B0 s b M g t tM : Nat) (ks : List (Int × Ow)) (r b' base t' tb : Nat) (ks' : List (Int × Rp)) (n : Nat) (pm mo ea pa : Int) (L : LB) (T : LT) (w : World) (h : TwoC w B0 s b M g t tM ks r b' base t' tb ks' n pm mo ea pa L T) (ho : OkSc B0 w q) (hd : q.d = 1) :
    Calls Tryz.prog 10 #[.pointer (some ⟨s, 0, none⟩), .pointer (some ⟨r, 0, none⟩), .agg (spC q)] w fun e w' => e = .returned (.bool true) ∧ TwoS w' B0 s r n pm mo ea pa (stepC n pm mo ea pa L T q).1 (stepC n pm mo ea pa L T q).2 ∧ Mod (fun i => B0 ≤ i) w w' := by
  have m1 := (Mod.refl (fun _ => False) w).alloc (.cells (spC q) TSc)
  have T1 := Lib.hid (h.new m1)
  have O1 := Lib.hid (ho.new m1)
  have X1 := Lib.hid (Blk.new w (spC q) TSc)
  have HOK : Hid (OkLT n pm mo ea (stepC n pm mo ea pa L T q).1 (stepC n pm mo ea pa L T q).2) := OkLT.step pa ⟨h.ok, h.okt, h.kn⟩ h.sm.2.2.2.1 q
  have M1 := Lib.hid (m1.mono (S' := fun i => B0 ≤ i) fun _ _ e => e.elim)
  have HB : Hid (∀ i, SWb s b M g t tM ks i → i < w.heap.size) := fun i hi => h.sw.lt hi
  have HB0 : Hid (B0 ≤ w.heap.size) := Nat.le_of_lt (Nat.lt_of_le_of_lt (h.low s (.inl (.inl rfl))) h.sw.blk.lt)
  clear h m1 ho
  obtain ⟨d, p, n', now, a, len, cap, bs, ma, ml, mc, may, z⟩ := q
  obtain ⟨L1, hL1⟩ : ∃ x, x = stepC n pm mo ea pa L T ⟨d, p, n', now, a, len, cap, bs, ma, ml, mc, may, z⟩ := ⟨_, rfl⟩
  rw [← hL1] at HOK ⊢
  unfold stepC at hL1
  dsimp only [spC] at *
  have HL1 := Lib.hid hL1
  clear hL1
  have e0 : (d == 0) = false := by simp; omega
  have e1 : (d == 1) = true := by simpa using hd
  have HE : Hid (L1 = ((addA n L p n').2, T)) := by show _ = _; rw [HL1.out, if_neg (by omega), if_pos hd]
  clear hd HL1
  go_enter Tryz.func10, Tryz.ntmps10
  go_upto_region 1 with fail
  generalize w.alloc (.cells #[.int .i64 d, .int .i64 p, .int .i64 n', .int .i64 now, .slice a len cap, .slice ma ml mc, .int .u64 z] TSc) = w1 at *
  obtain ⟨B, hB⟩ : ∃ B, B = w.heap.size := ⟨_, rfl⟩
  rw [← hB] at X1 HB HB0 ⊢
  clear hB
  have c0 := X1.out.cell 0; have c1 := X1.out.cell 1; have c2 := X1.out.cell 2; have c3 := X1.out.cell 3; have c4 := X1.out.cell 4; have c5 := X1.out.cell 5; have c6 := X1.out.cell 6
  have HS := Lib.hid (setsAll n' a len cap bs w1 O1.out.sl O1.out.by8)
  go_wp2_with fail
  refine HS.out.mono ?_; rintro e w2 ⟨so, ro, rfl, s1, s2, m2⟩
  have T2 := Lib.hid (T1.out.new m2)
  have X2 := Lib.hid (X1.out.mod m2 (fun h => h))
  have O2 := Lib.hid (O1.out.new m2)
  have hlo : ∀ i, SWb s b M g t tM ks i ∨ RWb w2 r b' t' ks' i → i < w1.heap.size := fun i hi => hi.elim (fun e => T1.out.sw.lt e) fun e => T1.out.rw'.lt ((T1.out.rw'.modB m2 fun _ _ h => h).2 i e)
  have HLO := Lib.hid hlo
  have HSB := Lib.hid s1
  have HSR := Lib.hid s2
  have M2 := Lib.hid (M1.out.trans (m2.mono (S' := fun i => B0 ≤ i) fun _ _ e => e.elim))
  clear m2 s1 s2 c0 c1 c2 c3 c4 c5 c6 X1 HS M1 T1 O1 hlo
  have c0 := X2.out.cell 0
  have HC := Lib.hid (connHave p n' s b M g t tM n pm mo ea pa ks L T w2 T2.out.sw T2.out.e1 T2.out.len.1 O2.out.i.1)
  have c1 := X2.out.cell 1; have c2 := X2.out.cell 2
  go_wp2_with fail
  refine HC.out.mono ?_; rintro e w3 ⟨rfl, h3⟩
  have hlw : ∀ i, SWb s b M g t tM ks i ∨ RWb w2 r b' t' ks' i → B0 ≤ i := T2.out.low
  have HLW := Lib.hid hlw
  clear hlw
  obtain ⟨k3, _, _, m3, _⟩ := id h3
  have hr3 := T2.out.mid m3
  have X3 := Lib.hid (X2.out.mod m3 (fun e => by have := HB.out _ e; omega))
  have HSR3 := Lib.hid (HSR.out.mod m3 (fun i e => HLO.out i (.inl e)))
  have HR3 := Lib.hid hr3
  have M3 := Lib.hid m3
  have H3 := Lib.hid h3
  clear h3 m3 hr3
  have HF := Lib.hid (fun rn => refAdd p n' b' base n pm ks' L (w3.drewN rn) (HR3.out.1.rd.drewN rn) T2.out.e2 T2.out.rise.2 T2.out.len.2.1)
  clear c0 c1 c2 X2 HC HSR HSB
  have c1 := X3.out.cell 1; have c2 := X3.out.cell 2
  have r0 := HR3.out.1.at.1
  go_wp2_with fail
  refine wp_region2 [] [] (by kernel_rfl) (by kernel_rfl) ?_
  repeat (first | (refine reg_anyT (by rfl) (fun K hK => ?_); go_simp; refine hK _ _ ?_; clear hK K) | (refine reg_read (by rfl) (fun K hK => ?_); go_simp; refine hK _ _ ?_; clear hK K))
  refine reg_eff (by rfl) (fun rn K hK => ?_); go_simp
  refine (HF.out rn).mono ?_; rintro e w' ⟨rfl, h4⟩
  refine hK _ _ ?_; clear hK K
  repeat (first | (refine reg_anyT (by rfl) (fun K hK => ?_); go_simp; refine hK _ _ ?_; clear hK K) | (refine reg_read (by rfl) (fun K hK => ?_); go_simp; refine hK _ _ ?_; clear hK K))
  refine reg_nil (fun nd => ?_)
  have h4 := (StW.board (HR3.out.1.new ((Mod.refl _ w3).drewN rn)) h4).drew nd
  have hok := HOK.out
  rw [HE.out] at hok
  have hb := T2.out.both H3.out h4 hok.ok hok.okt hok.kn
  have HH := Lib.hid hb
  clear hb h4 hok
  clear c1 c2 r0
  generalize World.drewN w' nd = w4 at *
  go_wp2_with fail
  go_ret
  exact ⟨by simp, by rw [HE.out]; exact HH.out.1, M2.out.trans HH.out.2⟩
set_option maxRecDepth 100000 in
set_option maxHeartbeats 4000000 in
theorem stepC2 (q : Sc) (B0 s b M g t tM : Nat) (ks : List (Int × Ow)) (r b' base t' tb : Nat) (ks' : List (Int × Rp)) (n : Nat) (pm mo ea pa : Int) (L : LB) (T : LT) (w : World) (h : TwoC w B0 s b M g t tM ks r b' base t' tb ks' n pm mo ea pa L T) (ho : OkSc B0 w q) (hd : q.d = 2) :
    Calls Tryz.prog 10 #[.pointer (some ⟨s, 0, none⟩), .pointer (some ⟨r, 0, none⟩), .agg (spC q)] w fun e w' => e = .returned (.bool true) ∧ TwoS w' B0 s r n pm mo ea pa (stepC n pm mo ea pa L T q).1 (stepC n pm mo ea pa L T q).2 ∧ Mod (fun i => B0 ≤ i) w w' := by
  have m1 := (Mod.refl (fun _ => False) w).alloc (.cells (spC q) TSc)
  have T1 := Lib.hid (h.new m1)
  have O1 := Lib.hid (ho.new m1)
  have X1 := Lib.hid (Blk.new w (spC q) TSc)
  have HOK : Hid (OkLT n pm mo ea (stepC n pm mo ea pa L T q).1 (stepC n pm mo ea pa L T q).2) := OkLT.step pa ⟨h.ok, h.okt, h.kn⟩ h.sm.2.2.2.1 q
  have M1 := Lib.hid (m1.mono (S' := fun i => B0 ≤ i) fun _ _ e => e.elim)
  have HB : Hid (∀ i, SWb s b M g t tM ks i → i < w.heap.size) := fun i hi => h.sw.lt hi
  have HB0 : Hid (B0 ≤ w.heap.size) := Nat.le_of_lt (Nat.lt_of_le_of_lt (h.low s (.inl (.inl rfl))) h.sw.blk.lt)
  clear h m1 ho
  obtain ⟨d, p, n', now, a, len, cap, bs, ma, ml, mc, may, z⟩ := q
  obtain ⟨L1, hL1⟩ : ∃ x, x = stepC n pm mo ea pa L T ⟨d, p, n', now, a, len, cap, bs, ma, ml, mc, may, z⟩ := ⟨_, rfl⟩
  rw [← hL1] at HOK ⊢
  unfold stepC at hL1
  dsimp only [spC] at *
  have HL1 := Lib.hid hL1
  clear hL1
  have e0 : (d == 0) = false := by simp; omega
  have e1 : (d == 1) = false := by simp; omega
  have e2 : (d == 2) = true := by simpa using hd
  have HE : Hid (L1 = ((goneA L p).2, goneT L p T)) := by show _ = _; rw [HL1.out, if_neg (by omega), if_neg (by omega), if_pos hd]
  clear hd HL1
  go_enter Tryz.func10, Tryz.ntmps10
  go_upto_region 1 with fail
  generalize w.alloc (.cells #[.int .i64 d, .int .i64 p, .int .i64 n', .int .i64 now, .slice a len cap, .slice ma ml mc, .int .u64 z] TSc) = w1 at *
  obtain ⟨B, hB⟩ : ∃ B, B = w.heap.size := ⟨_, rfl⟩
  rw [← hB] at X1 HB HB0 ⊢
  clear hB
  have c0 := X1.out.cell 0; have c1 := X1.out.cell 1; have c2 := X1.out.cell 2; have c3 := X1.out.cell 3; have c4 := X1.out.cell 4; have c5 := X1.out.cell 5; have c6 := X1.out.cell 6
  have HS := Lib.hid (setsAll n' a len cap bs w1 O1.out.sl O1.out.by8)
  go_wp2_with fail
  refine HS.out.mono ?_; rintro e w2 ⟨so, ro, rfl, s1, s2, m2⟩
  have T2 := Lib.hid (T1.out.new m2)
  have X2 := Lib.hid (X1.out.mod m2 (fun h => h))
  have O2 := Lib.hid (O1.out.new m2)
  have hlo : ∀ i, SWb s b M g t tM ks i ∨ RWb w2 r b' t' ks' i → i < w1.heap.size := fun i hi => hi.elim (fun e => T1.out.sw.lt e) fun e => T1.out.rw'.lt ((T1.out.rw'.modB m2 fun _ _ h => h).2 i e)
  have HLO := Lib.hid hlo
  have HSB := Lib.hid s1
  have HSR := Lib.hid s2
  have M2 := Lib.hid (M1.out.trans (m2.mono (S' := fun i => B0 ≤ i) fun _ _ e => e.elim))
  clear m2 s1 s2 c0 c1 c2 c3 c4 c5 c6 X1 HS M1 T1 O1 hlo
  have c0 := X2.out.cell 0
  have HC := Lib.hid (connGone p s b M g t tM n pm mo ea pa ks L T w2 T2.out.sw T2.out.e1 T2.out.tab.1 T2.out.len.1 T2.out.sm.1.2.2 O2.out.i.1 T2.out.len.2.2.2.2 T2.out.okt.i64)
  have c1 := X2.out.cell 1
  go_wp2_with fail
  refine HC.out.mono ?_; rintro e w3 ⟨rfl, h3⟩
  have hlw : ∀ i, SWb s b M g t tM ks i ∨ RWb w2 r b' t' ks' i → B0 ≤ i := T2.out.low
  have HLW := Lib.hid hlw
  clear hlw
  obtain ⟨k3, _, _, m3, _⟩ := id h3
  have hr3 := T2.out.mid m3
  have X3 := Lib.hid (X2.out.mod m3 (fun e => by have := HB.out _ e; omega))
  have HSR3 := Lib.hid (HSR.out.mod m3 (fun i e => HLO.out i (.inl e)))
  have HR3 := Lib.hid hr3
  have M3 := Lib.hid m3
  have H3 := Lib.hid h3
  clear h3 m3 hr3
  have HF := Lib.hid (refGone18 p r b' base t' tb n pm mo ea pa ks' L T w3 HR3.out.1 T2.out.e2 T2.out.rise.2 T2.out.len.2.1 T2.out.len.2.2.2.2)
  clear c0 c1 X2 HC HSR HSB
  have c1 := X3.out.cell 1
  go_wp2_with fail
  refine HF.out.mono ?_; rintro e w4 ⟨rfl, h4⟩
  have hok := HOK.out
  rw [HE.out] at hok
  have hb := T2.out.both H3.out h4 hok.ok hok.okt hok.kn
  have HH := Lib.hid hb
  clear hb h4 hok
  go_wp2_with fail
  go_ret
  exact ⟨by simp, by rw [HE.out]; exact HH.out.1, M2.out.trans HH.out.2⟩
set_option maxRecDepth 100000 in
set_option maxHeartbeats 4000000 in
theorem stepC3 (q : Sc) (B0 s b M g t tM : Nat) (ks : List (Int × Ow)) (r b' base t' tb : Nat) (ks' : List (Int × Rp)) (n : Nat) (pm mo ea pa : Int) (L : LB) (T : LT) (w : World) (h : TwoC w B0 s b M g t tM ks r b' base t' tb ks' n pm mo ea pa L T) (ho : OkSc B0 w q) (hml : q.ml ≤ 100) (hd : q.d = 3) :
    Calls Tryz.prog 10 #[.pointer (some ⟨s, 0, none⟩), .pointer (some ⟨r, 0, none⟩), .agg (spC q)] w fun e w' => e = .returned (.bool true) ∧ TwoS w' B0 s r n pm mo ea pa (stepC n pm mo ea pa L T q).1 (stepC n pm mo ea pa L T q).2 ∧ Mod (fun i => B0 ≤ i) w w' := by
  have m1 := (Mod.refl (fun _ => False) w).alloc (.cells (spC q) TSc)
  have T1 := Lib.hid (h.new m1)
  have O1 := Lib.hid (ho.new m1)
  have X1 := Lib.hid (Blk.new w (spC q) TSc)
  have HOK : Hid (OkLT n pm mo ea (stepC n pm mo ea pa L T q).1 (stepC n pm mo ea pa L T q).2) := OkLT.step pa ⟨h.ok, h.okt, h.kn⟩ h.sm.2.2.2.1 q
  have M1 := Lib.hid (m1.mono (S' := fun i => B0 ≤ i) fun _ _ e => e.elim)
  have HB : Hid (∀ i, SWb s b M g t tM ks i → i < w.heap.size) := fun i hi => h.sw.lt hi
  have HB0 : Hid (B0 ≤ w.heap.size) := Nat.le_of_lt (Nat.lt_of_le_of_lt (h.low s (.inl (.inl rfl))) h.sw.blk.lt)
  clear h m1 ho
  obtain ⟨d, p, n', now, a, len, cap, bs, ma, ml, mc, may, z⟩ := q
  obtain ⟨L1, hL1⟩ : ∃ x, x = stepC n pm mo ea pa L T ⟨d, p, n', now, a, len, cap, bs, ma, ml, mc, may, z⟩ := ⟨_, rfl⟩
  rw [← hL1] at HOK ⊢
  unfold stepC at hL1
  dsimp only [spC] at *
  have HL1 := Lib.hid hL1
  clear hL1
  have e0 : (d == 0) = false := by simp; omega
  have e1 : (d == 1) = false := by simp; omega
  have e2 : (d == 2) = false := by simp; omega
  have e3 : (d == 3) = true := by simpa using hd
  have HE : Hid (L1 = (L, (nextA n mo ea L now (setsX n' bs) may z T).1)) := by show _ = _; rw [HL1.out, if_neg (by omega), if_neg (by omega), if_neg (by omega), if_pos hd]
  clear hd HL1
  go_enter Tryz.func10, Tryz.ntmps10
  go_upto_region 1 with fail
  generalize w.alloc (.cells #[.int .i64 d, .int .i64 p, .int .i64 n', .int .i64 now, .slice a len cap, .slice ma ml mc, .int .u64 z] TSc) = w1 at *
  obtain ⟨B, hB⟩ : ∃ B, B = w.heap.size := ⟨_, rfl⟩
  rw [← hB] at X1 HB HB0 ⊢
  clear hB
  have c0 := X1.out.cell 0; have c1 := X1.out.cell 1; have c2 := X1.out.cell 2; have c3 := X1.out.cell 3; have c4 := X1.out.cell 4; have c5 := X1.out.cell 5; have c6 := X1.out.cell 6
  have HS := Lib.hid (setsAll n' a len cap bs w1 O1.out.sl O1.out.by8)
  go_wp2_with fail
  refine HS.out.mono ?_; rintro e w2 ⟨so, ro, rfl, s1, s2, m2⟩
  have T2 := Lib.hid (T1.out.new m2)
  have X2 := Lib.hid (X1.out.mod m2 (fun h => h))
  have O2 := Lib.hid (O1.out.new m2)
  have hlo : ∀ i, SWb s b M g t tM ks i ∨ RWb w2 r b' t' ks' i → i < w1.heap.size := fun i hi => hi.elim (fun e => T1.out.sw.lt e) fun e => T1.out.rw'.lt ((T1.out.rw'.modB m2 fun _ _ h => h).2 i e)
  have HLO := Lib.hid hlo
  have HSB := Lib.hid s1
  have HSR := Lib.hid s2
  have M2 := Lib.hid (M1.out.trans (m2.mono (S' := fun i => B0 ≤ i) fun _ _ e => e.elim))
  clear m2 s1 s2 c0 c1 c2 c3 c4 c5 c6 X1 HS M1 T1 O1 hlo
  have c0 := X2.out.cell 0
  have HOUT : Hid (∀ m f, setsX n' bs = some (m, f) → ∀ i, m ≤ i → f i = false) := fun m f e => by
    rcases HSB.out with ⟨_, e2⟩ | ⟨y, yg, m2, f2, _, e2, hy, _⟩
    · rw [e2] at e; cases e
    · rw [e2] at e; cases e; exact hy.out
  have HLQ := Lib.hid (nextA_inv (L := L) (now := now) (x := setsX n' bs) (may := may) (seed := z) T2.out.okt T2.out.kn T2.out.sm.2.2.2.1).2.2
  have HMT : Hid (∀ x m c, Value.slice ma ml mc = .slice (some x) m c → 0 < ml → x.block ≠ tM) := fun x m c e h0 e2 => by
    have h1 := O2.out.mlow x m c e h0
    have h2 := T2.out.low tM (.inl (.inr (.inr (.inr rfl))))
    omega
  have HC := Lib.hid (connNext now z so (setsX n' bs) (.slice ma ml mc) ml may s b M g t tM n pm mo ea pa ks L T w2 T2.out.sw T2.out.tab.1 HSB.out O2.out.may (by omega) HMT.out T2.out.e1 T2.out.okt T2.out.ok T2.out.sm.2.2.2.1 T2.out.sm.1.1 T2.out.kn T2.out.sm.1.2.2 (fun i hi => by have h1 := T2.out.low i (.inl hi); have h2 := T2.out.tab.2; omega))
  obtain ⟨NA, hNA⟩ : ∃ x, x = nextA n mo ea L now (setsX n' bs) may z T := ⟨_, rfl⟩
  rw [← hNA] at HC HLQ HE
  have HNA := Lib.hid hNA
  clear hNA
  obtain ⟨TQ, LQ, EQ⟩ := NA
  dsimp only at HC HLQ HE
  have c3 := X2.out.cell 3; have c5 := X2.out.cell 5; have c6 := X2.out.cell 6
  go_wp2_with fail
  refine HC.out.mono ?_; rintro e w3 ⟨⟨v3, rfl, ho3⟩, ht3, mt3⟩
  have h3 := StS.tmod T2.out.sw T2.out.e1 ht3 mt3
  have HO3 := Lib.hid ho3
  have HM3 := Lib.hid (O2.out.may.keepM mt3 HMT.out)
  have hlw : ∀ i, SWb s b M g t tM ks i ∨ RWb w2 r b' t' ks' i → B0 ≤ i := T2.out.low
  have HLW := Lib.hid hlw
  clear hlw
  obtain ⟨k3, _, _, m3, _⟩ := id h3
  have hr3 := T2.out.mid m3
  have X3 := Lib.hid (X2.out.mod m3 (fun e => by have := HB.out _ e; omega))
  have HSR3 := Lib.hid (HSR.out.mod m3 (fun i e => HLO.out i (.inl e)))
  have HR3 := Lib.hid hr3
  have M3 := Lib.hid m3
  have H3 := Lib.hid h3
  clear h3 m3 hr3
  have HFT : Hid (∀ x m c, Value.slice ma ml mc = .slice (some x) m c → 0 < ml → ¬ Fl.RTb w3 t' x.block) := fun x m c e h0 e2 => by
    have h1 := O2.out.mlow x m c e h0
    have h2 := HLW.out _ (.inr (HR3.out.2 _ (.inr (.inr e2))))
    omega
  have HF := Lib.hid (refNext18 now z ro (setsX n' bs) (.slice ma ml mc) ml may r b' base t' tb n pm mo ea pa ks' L T w3 HR3.out.1 HSR3.out (fun i hi => HLO.out i (.inr (HR3.out.2 i hi))) HOUT.out HM3.out (by omega) HFT.out T2.out.e2 T2.out.rise.2 T2.out.len.2.1 T2.out.okt T2.out.sm.2.2.2.1 T2.out.kn T2.out.sm.1.2)
  rw [← HNA.out] at HF
  dsimp only at HF
  clear c0 c3 c5 c6 X2 HC HSR HSB ho3 ht3 mt3
  have c3 := X3.out.cell 3; have c5 := X3.out.cell 5; have c6 := X3.out.cell 6
  go_wp2_with fail
  refine HF.out.mono ?_; rintro e w4 ⟨⟨v4, rfl, ho4⟩, hs4, _⟩
  clear c3 c5 c6 HF
  have hown4 := owns_keep HO3.out hs4.2.1 (fun i hi hj => by
    have h1 := (HO3.out.lt i hi).1
    have h2 := T2.out.rw'.lt (HR3.out.2 i (.inr (.inr hj)))
    omega)
  obtain ⟨a4, cap4, rfl, _, hel4, _⟩ := hown4.els
  obtain ⟨a5, cap5, rfl, _, hel5, _⟩ := ho4.els
  have HSM := Lib.hid (Fl.refSame a4 a5 cap4 cap5 LQ LQ w4 hel4 hel5 (by have := HLQ.out; omega) (by have := HLQ.out; omega))
  have h4 := StW.tmod HR3.out.1 T2.out.e2 hs4
  have hok := HOK.out
  rw [HE.out] at hok
  have hb := T2.out.both H3.out h4 hok.ok hok.okt hok.kn
  have HH := Lib.hid hb
  clear hb h4 hok
  clear hown4 ho4 hs4 hel4 hel5 HO3 HFT
  go_wp2_with fail
  refine HSM.out.mono ?_; rintro e w5 ⟨⟨Bq, rfl, hBq⟩, m5⟩
  have hBq := hBq (by first | trivial | rfl)
  subst hBq
  have HH5 := Lib.hid (HH.out.1.new m5)
  have HM5 := Lib.hid ((M2.out.trans HH.out.2).trans (m5.mono (S' := fun i => B0 ≤ i) fun _ _ e => e.elim))
  clear m5 HH
  go_wp2_with fail
  go_ret
  exact ⟨by simp, by rw [HE.out]; exact HH5.out, HM5.out⟩
set_option maxRecDepth 100000 in
set_option maxHeartbeats 4000000 in
theorem stepC4 (q : Sc) (B0 s b M g t tM : Nat) (ks : List (Int × Ow)) (r b' base t' tb : Nat) (ks' : List (Int × Rp)) (n : Nat) (pm mo ea pa : Int) (L : LB) (T : LT) (w : World) (h : TwoC w B0 s b M g t tM ks r b' base t' tb ks' n pm mo ea pa L T) (ho : OkSc B0 w q) (hd : q.d = 4) :
    Calls Tryz.prog 10 #[.pointer (some ⟨s, 0, none⟩), .pointer (some ⟨r, 0, none⟩), .agg (spC q)] w fun e w' => e = .returned (.bool true) ∧ TwoS w' B0 s r n pm mo ea pa (stepC n pm mo ea pa L T q).1 (stepC n pm mo ea pa L T q).2 ∧ Mod (fun i => B0 ≤ i) w w' := by
  have m1 := (Mod.refl (fun _ => False) w).alloc (.cells (spC q) TSc)
  have T1 := Lib.hid (h.new m1)
  have O1 := Lib.hid (ho.new m1)
  have X1 := Lib.hid (Blk.new w (spC q) TSc)
  have HOK : Hid (OkLT n pm mo ea (stepC n pm mo ea pa L T q).1 (stepC n pm mo ea pa L T q).2) := OkLT.step pa ⟨h.ok, h.okt, h.kn⟩ h.sm.2.2.2.1 q
  have M1 := Lib.hid (m1.mono (S' := fun i => B0 ≤ i) fun _ _ e => e.elim)
  have HB : Hid (∀ i, SWb s b M g t tM ks i → i < w.heap.size) := fun i hi => h.sw.lt hi
  have HB0 : Hid (B0 ≤ w.heap.size) := Nat.le_of_lt (Nat.lt_of_le_of_lt (h.low s (.inl (.inl rfl))) h.sw.blk.lt)
  clear h m1 ho
  obtain ⟨d, p, n', now, a, len, cap, bs, ma, ml, mc, may, z⟩ := q
  obtain ⟨L1, hL1⟩ : ∃ x, x = stepC n pm mo ea pa L T ⟨d, p, n', now, a, len, cap, bs, ma, ml, mc, may, z⟩ := ⟨_, rfl⟩
  rw [← hL1] at HOK ⊢
  unfold stepC at hL1
  dsimp only [spC] at *
  have HL1 := Lib.hid hL1
  clear hL1
  have e0 : (d == 0) = false := by simp; omega
  have e1 : (d == 1) = false := by simp; omega
  have e2 : (d == 2) = false := by simp; omega
  have e3 : (d == 3) = false := by simp; omega
  have e4 : (d == 4) = true := by simpa using hd
  have HE : Hid (L1 = (L, (fallA n mo ea now (setsX n' bs) T).1)) := by show _ = _; rw [HL1.out, if_neg (by omega), if_neg (by omega), if_neg (by omega), if_neg (by omega), if_pos hd]
  clear hd HL1
  go_enter Tryz.func10, Tryz.ntmps10
  go_upto_region 1 with fail
  generalize w.alloc (.cells #[.int .i64 d, .int .i64 p, .int .i64 n', .int .i64 now, .slice a len cap, .slice ma ml mc, .int .u64 z] TSc) = w1 at *
  obtain ⟨B, hB⟩ : ∃ B, B = w.heap.size := ⟨_, rfl⟩
  rw [← hB] at X1 HB HB0 ⊢
  clear hB
  have c0 := X1.out.cell 0; have c1 := X1.out.cell 1; have c2 := X1.out.cell 2; have c3 := X1.out.cell 3; have c4 := X1.out.cell 4; have c5 := X1.out.cell 5; have c6 := X1.out.cell 6
  have HS := Lib.hid (setsAll n' a len cap bs w1 O1.out.sl O1.out.by8)
  go_wp2_with fail
  refine HS.out.mono ?_; rintro e w2 ⟨so, ro, rfl, s1, s2, m2⟩
  have T2 := Lib.hid (T1.out.new m2)
  have X2 := Lib.hid (X1.out.mod m2 (fun h => h))
  have O2 := Lib.hid (O1.out.new m2)
  have hlo : ∀ i, SWb s b M g t tM ks i ∨ RWb w2 r b' t' ks' i → i < w1.heap.size := fun i hi => hi.elim (fun e => T1.out.sw.lt e) fun e => T1.out.rw'.lt ((T1.out.rw'.modB m2 fun _ _ h => h).2 i e)
  have HLO := Lib.hid hlo
  have HSB := Lib.hid s1
  have HSR := Lib.hid s2
  have M2 := Lib.hid (M1.out.trans (m2.mono (S' := fun i => B0 ≤ i) fun _ _ e => e.elim))
  clear m2 s1 s2 c0 c1 c2 c3 c4 c5 c6 X1 HS M1 T1 O1 hlo
  have c0 := X2.out.cell 0
  have HOUT : Hid (∀ m f, setsX n' bs = some (m, f) → ∀ i, m ≤ i → f i = false) := fun m f e => by
    rcases HSB.out with ⟨_, e2⟩ | ⟨y, yg, m2, f2, _, e2, hy, _⟩
    · rw [e2] at e; cases e
    · rw [e2] at e; cases e; exact hy.out
  have HLQ := Lib.hid (fallA_inv (now := now) (x := setsX n' bs) T2.out.okt T2.out.kn T2.out.sm.2.2.2.1).2.2
  have HC := Lib.hid (connFall now so (setsX n' bs) s b M g t tM n pm mo ea pa ks T w2 T2.out.sw T2.out.tab.1 HSB.out T2.out.okt T2.out.sm.2.2.2.1 T2.out.kn T2.out.sm.1.2.2 (by have h1 := T2.out.low tM (.inl (.inr (.inr (.inr rfl)))); have h2 := T2.out.tab.2; omega))
  obtain ⟨NA, hNA⟩ : ∃ x, x = fallA n mo ea now (setsX n' bs) T := ⟨_, rfl⟩
  rw [← hNA] at HC HLQ HE
  have HNA := Lib.hid hNA
  clear hNA
  obtain ⟨TQ, LQ, EQ⟩ := NA
  dsimp only at HC HLQ HE
  have c3 := X2.out.cell 3
  go_wp2_with fail
  refine HC.out.mono ?_; rintro e w3 ⟨⟨v3, rfl, ho3⟩, ht3, mt3⟩
  have h3 := StS.tmod T2.out.sw T2.out.e1 ht3 mt3
  have HO3 := Lib.hid ho3
  have hlw : ∀ i, SWb s b M g t tM ks i ∨ RWb w2 r b' t' ks' i → B0 ≤ i := T2.out.low
  have HLW := Lib.hid hlw
  clear hlw
  obtain ⟨k3, _, _, m3, _⟩ := id h3
  have hr3 := T2.out.mid m3
  have X3 := Lib.hid (X2.out.mod m3 (fun e => by have := HB.out _ e; omega))
  have HSR3 := Lib.hid (HSR.out.mod m3 (fun i e => HLO.out i (.inl e)))
  have HR3 := Lib.hid hr3
  have M3 := Lib.hid m3
  have H3 := Lib.hid h3
  clear h3 m3 hr3
  have HFT : Hid True := trivial
  have HF := Lib.hid (refFall18 now ro (setsX n' bs) r b' base t' tb n pm mo ea pa ks' T w3 HR3.out.1 HSR3.out HOUT.out T2.out.okt T2.out.sm.2.2.2.1 T2.out.kn T2.out.sm.1.2)
  rw [← HNA.out] at HF
  dsimp only at HF
  clear c0 c3 X2 HC HSR HSB ho3 ht3 mt3
  have c3 := X3.out.cell 3
  go_wp2_with fail
  refine HF.out.mono ?_; rintro e w4 ⟨⟨v4, rfl, ho4⟩, hs4, _⟩
  clear c3 HF
  have hown4 := owns_keep HO3.out hs4.2.1 (fun i hi hj => by
    have h1 := (HO3.out.lt i hi).1
    have h2 := T2.out.rw'.lt (HR3.out.2 i (.inr (.inr hj)))
    omega)
  obtain ⟨a4, cap4, rfl, _, hel4, _⟩ := hown4.els
  obtain ⟨a5, cap5, rfl, _, hel5, _⟩ := ho4.els
  have HSM := Lib.hid (Fl.refSame a4 a5 cap4 cap5 LQ LQ w4 hel4 hel5 (by have := HLQ.out; omega) (by have := HLQ.out; omega))
  have h4 := StW.tmod HR3.out.1 T2.out.e2 hs4
  have hok := HOK.out
  rw [HE.out] at hok
  have hb := T2.out.both H3.out h4 hok.ok hok.okt hok.kn
  have HH := Lib.hid hb
  clear hb h4 hok
  clear hown4 ho4 hs4 hel4 hel5 HO3 HFT
  go_wp2_with fail
  refine HSM.out.mono ?_; rintro e w5 ⟨⟨Bq, rfl, hBq⟩, m5⟩
  have hBq := hBq (by first | trivial | rfl)
  subst hBq
  have HH5 := Lib.hid (HH.out.1.new m5)
  have HM5 := Lib.hid ((M2.out.trans HH.out.2).trans (m5.mono (S' := fun i => B0 ≤ i) fun _ _ e => e.elim))
  clear m5 HH
  go_wp2_with fail
  go_ret
  exact ⟨by simp, by rw [HE.out]; exact HH5.out, HM5.out⟩
set_option maxRecDepth 100000 in
set_option maxHeartbeats 4000000 in
theorem stepC5 (q : Sc) (B0 s b M g t tM : Nat) (ks : List (Int × Ow)) (r b' base t' tb : Nat) (ks' : List (Int × Rp)) (n : Nat) (pm mo ea pa : Int) (L : LB) (T : LT) (w : World) (h : TwoC w B0 s b M g t tM ks r b' base t' tb ks' n pm mo ea pa L T) (ho : OkSc B0 w q) (hd : q.d = 5) :
    Calls Tryz.prog 10 #[.pointer (some ⟨s, 0, none⟩), .pointer (some ⟨r, 0, none⟩), .agg (spC q)] w fun e w' => e = .returned (.bool true) ∧ TwoS w' B0 s r n pm mo ea pa (stepC n pm mo ea pa L T q).1 (stepC n pm mo ea pa L T q).2 ∧ Mod (fun i => B0 ≤ i) w w' := by
  have m1 := (Mod.refl (fun _ => False) w).alloc (.cells (spC q) TSc)
  have T1 := Lib.hid (h.new m1)
  have O1 := Lib.hid (ho.new m1)
  have X1 := Lib.hid (Blk.new w (spC q) TSc)
  have HOK : Hid (OkLT n pm mo ea (stepC n pm mo ea pa L T q).1 (stepC n pm mo ea pa L T q).2) := OkLT.step pa ⟨h.ok, h.okt, h.kn⟩ h.sm.2.2.2.1 q
  have M1 := Lib.hid (m1.mono (S' := fun i => B0 ≤ i) fun _ _ e => e.elim)
  have HB : Hid (∀ i, SWb s b M g t tM ks i → i < w.heap.size) := fun i hi => h.sw.lt hi
  have HB0 : Hid (B0 ≤ w.heap.size) := Nat.le_of_lt (Nat.lt_of_le_of_lt (h.low s (.inl (.inl rfl))) h.sw.blk.lt)
  clear h m1 ho
  obtain ⟨d, p, n', now, a, len, cap, bs, ma, ml, mc, may, z⟩ := q
  obtain ⟨L1, hL1⟩ : ∃ x, x = stepC n pm mo ea pa L T ⟨d, p, n', now, a, len, cap, bs, ma, ml, mc, may, z⟩ := ⟨_, rfl⟩
  rw [← hL1] at HOK ⊢
  unfold stepC at hL1
  dsimp only [spC] at *
  have HL1 := Lib.hid hL1
  clear hL1
  have e0 : (d == 0) = false := by simp; omega
  have e1 : (d == 1) = false := by simp; omega
  have e2 : (d == 2) = false := by simp; omega
  have e3 : (d == 3) = false := by simp; omega
  have e4 : (d == 4) = false := by simp; omega
  have e5 : (d == 5) = true := by simpa using hd
  have HE : Hid (L1 = (L, overT T p n')) := by show _ = _; rw [HL1.out, if_neg (by omega), if_neg (by omega), if_neg (by omega), if_neg (by omega), if_neg (by omega), if_pos hd]
  clear hd HL1
  go_enter Tryz.func10, Tryz.ntmps10
  go_upto_region 1 with fail
  generalize w.alloc (.cells #[.int .i64 d, .int .i64 p, .int .i64 n', .int .i64 now, .slice a len cap, .slice ma ml mc, .int .u64 z] TSc) = w1 at *
  obtain ⟨B, hB⟩ : ∃ B, B = w.heap.size := ⟨_, rfl⟩
  rw [← hB] at X1 HB HB0 ⊢
  clear hB
  have c0 := X1.out.cell 0; have c1 := X1.out.cell 1; have c2 := X1.out.cell 2; have c3 := X1.out.cell 3; have c4 := X1.out.cell 4; have c5 := X1.out.cell 5; have c6 := X1.out.cell 6
  have HS := Lib.hid (setsAll n' a len cap bs w1 O1.out.sl O1.out.by8)
  go_wp2_with fail
  refine HS.out.mono ?_; rintro e w2 ⟨so, ro, rfl, s1, s2, m2⟩
  have T2 := Lib.hid (T1.out.new m2)
  have X2 := Lib.hid (X1.out.mod m2 (fun h => h))
  have O2 := Lib.hid (O1.out.new m2)
  have hlo : ∀ i, SWb s b M g t tM ks i ∨ RWb w2 r b' t' ks' i → i < w1.heap.size := fun i hi => hi.elim (fun e => T1.out.sw.lt e) fun e => T1.out.rw'.lt ((T1.out.rw'.modB m2 fun _ _ h => h).2 i e)
  have HLO := Lib.hid hlo
  have HSB := Lib.hid s1
  have HSR := Lib.hid s2
  have M2 := Lib.hid (M1.out.trans (m2.mono (S' := fun i => B0 ≤ i) fun _ _ e => e.elim))
  clear m2 s1 s2 c0 c1 c2 c3 c4 c5 c6 X1 HS M1 T1 O1 hlo
  have c0 := X2.out.cell 0
  have HC := Lib.hid (connOver p n' s b M g t tM n pm mo ea pa ks T w2 T2.out.sw O2.out.i.2)
  have c1 := X2.out.cell 1; have c2 := X2.out.cell 2
  go_wp2_with fail
  refine HC.out.mono ?_; rintro e w3 ⟨rfl, ht3, mt3⟩
  have h3 := StS.tmod T2.out.sw T2.out.e1 ht3 mt3
  have hlw : ∀ i, SWb s b M g t tM ks i ∨ RWb w2 r b' t' ks' i → B0 ≤ i := T2.out.low
  have HLW := Lib.hid hlw
  clear hlw
  obtain ⟨k3, _, _, m3, _⟩ := id h3
  have hr3 := T2.out.mid m3
  have X3 := Lib.hid (X2.out.mod m3 (fun e => by have := HB.out _ e; omega))
  have HSR3 := Lib.hid (HSR.out.mod m3 (fun i e => HLO.out i (.inl e)))
  have HR3 := Lib.hid hr3
  have M3 := Lib.hid m3
  have H3 := Lib.hid h3
  clear h3 m3 hr3
  have HF := Lib.hid (refOver18 p n' r b' base t' tb n pm mo ea pa ks' T w3 HR3.out.1 T2.out.okt.rising T2.out.len.2.2.2.2)
  clear c0 c1 c2 X2 HC HSR HSB ht3 mt3
  have c1 := X3.out.cell 1; have c2 := X3.out.cell 2
  go_wp2_with fail
  refine HF.out.mono ?_; rintro e w4 ⟨rfl, hs4⟩
  have h4 := StW.tmod HR3.out.1 T2.out.e2 hs4
  have hok := HOK.out
  rw [HE.out] at hok
  have hb := T2.out.both H3.out h4 hok.ok hok.okt hok.kn
  have HH := Lib.hid hb
  clear hb h4 hok
  clear hs4
  go_wp2_with fail
  go_ret
  exact ⟨by simp, by rw [HE.out]; exact HH.out.1, M2.out.trans HH.out.2⟩
set_option maxRecDepth 100000 in
set_option maxHeartbeats 4000000 in
theorem stepC6 (q : Sc) (B0 s b M g t tM : Nat) (ks : List (Int × Ow)) (r b' base t' tb : Nat) (ks' : List (Int × Rp)) (n : Nat) (pm mo ea pa : Int) (L : LB) (T : LT) (w : World) (h : TwoC w B0 s b M g t tM ks r b' base t' tb ks' n pm mo ea pa L T) (ho : OkSc B0 w q) (hd : q.d ≠ 0 ∧ q.d ≠ 1 ∧ q.d ≠ 2 ∧ q.d ≠ 3 ∧ q.d ≠ 4 ∧ q.d ≠ 5) :
    Calls Tryz.prog 10 #[.pointer (some ⟨s, 0, none⟩), .pointer (some ⟨r, 0, none⟩), .agg (spC q)] w fun e w' => e = .returned (.bool true) ∧ TwoS w' B0 s r n pm mo ea pa (stepC n pm mo ea pa L T q).1 (stepC n pm mo ea pa L T q).2 ∧ Mod (fun i => B0 ≤ i) w w' := by
  have m1 := (Mod.refl (fun _ => False) w).alloc (.cells (spC q) TSc)
  have T1 := Lib.hid (h.new m1)
  have O1 := Lib.hid (ho.new m1)
  have X1 := Lib.hid (Blk.new w (spC q) TSc)
  have HOK : Hid (OkLT n pm mo ea (stepC n pm mo ea pa L T q).1 (stepC n pm mo ea pa L T q).2) := OkLT.step pa ⟨h.ok, h.okt, h.kn⟩ h.sm.2.2.2.1 q
  have M1 := Lib.hid (m1.mono (S' := fun i => B0 ≤ i) fun _ _ e => e.elim)
  have HB : Hid (∀ i, SWb s b M g t tM ks i → i < w.heap.size) := fun i hi => h.sw.lt hi
  have HB0 : Hid (B0 ≤ w.heap.size) := Nat.le_of_lt (Nat.lt_of_le_of_lt (h.low s (.inl (.inl rfl))) h.sw.blk.lt)
  clear h m1 ho
  obtain ⟨d, p, n', now, a, len, cap, bs, ma, ml, mc, may, z⟩ := q
  obtain ⟨L1, hL1⟩ : ∃ x, x = stepC n pm mo ea pa L T ⟨d, p, n', now, a, len, cap, bs, ma, ml, mc, may, z⟩ := ⟨_, rfl⟩
  rw [← hL1] at HOK ⊢
  unfold stepC at hL1
  dsimp only [spC] at *
  have HL1 := Lib.hid hL1
  clear hL1
  have e0 : (d == 0) = false := by simp; omega
  have e1 : (d == 1) = false := by simp; omega
  have e2 : (d == 2) = false := by simp; omega
  have e3 : (d == 3) = false := by simp; omega
  have e4 : (d == 4) = false := by simp; omega
  have e5 : (d == 5) = false := by simp; omega
  have HE : Hid (L1 = (L, lateT pa now T)) := by show _ = _; rw [HL1.out, if_neg (by omega), if_neg (by omega), if_neg (by omega), if_neg (by omega), if_neg (by omega), if_neg (by omega)]
  clear hd HL1
  go_enter Tryz.func10, Tryz.ntmps10
  go_upto_region 1 with fail
  generalize w.alloc (.cells #[.int .i64 d, .int .i64 p, .int .i64 n', .int .i64 now, .slice a len cap, .slice ma ml mc, .int .u64 z] TSc) = w1 at *
  obtain ⟨B, hB⟩ : ∃ B, B = w.heap.size := ⟨_, rfl⟩
  rw [← hB] at X1 HB HB0 ⊢
  clear hB
  have c0 := X1.out.cell 0; have c1 := X1.out.cell 1; have c2 := X1.out.cell 2; have c3 := X1.out.cell 3; have c4 := X1.out.cell 4; have c5 := X1.out.cell 5; have c6 := X1.out.cell 6
  have HS := Lib.hid (setsAll n' a len cap bs w1 O1.out.sl O1.out.by8)
  go_wp2_with fail
  refine HS.out.mono ?_; rintro e w2 ⟨so, ro, rfl, s1, s2, m2⟩
  have T2 := Lib.hid (T1.out.new m2)
  have X2 := Lib.hid (X1.out.mod m2 (fun h => h))
  have O2 := Lib.hid (O1.out.new m2)
  have hlo : ∀ i, SWb s b M g t tM ks i ∨ RWb w2 r b' t' ks' i → i < w1.heap.size := fun i hi => hi.elim (fun e => T1.out.sw.lt e) fun e => T1.out.rw'.lt ((T1.out.rw'.modB m2 fun _ _ h => h).2 i e)
  have HLO := Lib.hid hlo
  have HSB := Lib.hid s1
  have HSR := Lib.hid s2
  have M2 := Lib.hid (M1.out.trans (m2.mono (S' := fun i => B0 ≤ i) fun _ _ e => e.elim))
  clear m2 s1 s2 c0 c1 c2 c3 c4 c5 c6 X1 HS M1 T1 O1 hlo
  have c0 := X2.out.cell 0
  have HLQ : Hid ((lateL pa now T).length ≤ 256) := by
    have h1 := T2.out.len.2.2.2.2
    show (lateL pa now T).length ≤ 256
    unfold lateL
    split
    · exact Nat.le_trans (List.length_filter_le _ _) h1
    · simp
  have HC := Lib.hid (connLate now s b M g t tM n pm mo ea pa ks T w2 T2.out.sw T2.out.len.2.2.2.2 T2.out.okt.i64 T2.out.okt.tm)
  obtain ⟨LQ, hLQ⟩ : ∃ x, x = lateL pa now T := ⟨_, rfl⟩
  rw [← hLQ] at HC HLQ
  have HLL := Lib.hid hLQ
  clear hLQ
  have c3 := X2.out.cell 3
  go_wp2_with fail
  refine HC.out.mono ?_; rintro e w3 ⟨⟨v3, rfl, ho3⟩, ht3, mt3⟩
  have h3 := StS.tmod T2.out.sw T2.out.e1 ht3 mt3
  have HO3 := Lib.hid ho3
  have hlw : ∀ i, SWb s b M g t tM ks i ∨ RWb w2 r b' t' ks' i → B0 ≤ i := T2.out.low
  have HLW := Lib.hid hlw
  clear hlw
  obtain ⟨k3, _, _, m3, _⟩ := id h3
  have hr3 := T2.out.mid m3
  have X3 := Lib.hid (X2.out.mod m3 (fun e => by have := HB.out _ e; omega))
  have HSR3 := Lib.hid (HSR.out.mod m3 (fun i e => HLO.out i (.inl e)))
  have HR3 := Lib.hid hr3
  have M3 := Lib.hid m3
  have H3 := Lib.hid h3
  clear h3 m3 hr3
  have HFT : Hid True := trivial
  have HF := Lib.hid (fun rn => refLateA now t' tb mo ea pa T (w3.drewN rn) (HR3.out.1.rt.drewN rn) HR3.out.1.hb.2 T2.out.len.2.2.2.2 T2.out.okt.tm)
  rw [← HLL.out] at HF
  clear c0 c3 X2 HC HSR HSB ho3 ht3 mt3
  have c3 := X3.out.cell 3
  have r1 := HR3.out.1.at.2
  go_wp2_with fail
  refine wp_region2 [] [] (by kernel_rfl) (by kernel_rfl) ?_
  repeat (first | (refine reg_anyT (by rfl) (fun K hK => ?_); go_simp; refine hK _ _ ?_; clear hK K) | (refine reg_read (by rfl) (fun K hK => ?_); go_simp; refine hK _ _ ?_; clear hK K))
  refine reg_eff (by rfl) (fun rn K hK => ?_); go_simp
  refine (HF.out rn).mono ?_; rintro e w' ⟨⟨v4, rfl, ho4⟩, hs4⟩
  refine hK _ _ ?_; clear hK K
  repeat (first | (refine reg_anyT (by rfl) (fun K hK => ?_); go_simp; refine hK _ _ ?_; clear hK K) | (refine reg_read (by rfl) (fun K hK => ?_); go_simp; refine hK _ _ ?_; clear hK K))
  refine reg_nil (fun nd => ?_)
  have hs5 : Fl.StepT t' tb mo ea pa (lateT pa now T) w3 (World.drewN w' nd) := (StepT.other (S := fun _ => False) (StepT.thenT (Fl.StepT.same HR3.out.1.rt ((Mod.refl _ w3).drewN rn)) hs4) ((Mod.refl _ w').drewN nd) (fun _ e => e.elim) (fun _ _ e => e)).1
  have ho5 := owns_new ho4 ((Mod.refl (fun _ => False) w').drewN nd)
  clear c3 r1 HF hs4 ho4
  generalize World.drewN w' nd = w4 at *
  clear w'
  have hs4 := hs5
  have ho4 := ho5
  clear hs5 ho5
  have hown4 := owns_keep HO3.out hs4.2.1 (fun i hi hj => by
    have h1 := (HO3.out.lt i hi).1
    have h2 := T2.out.rw'.lt (HR3.out.2 i (.inr (.inr hj)))
    omega)
  obtain ⟨a4, cap4, rfl, _, hel4, _⟩ := hown4.els
  obtain ⟨a5, cap5, rfl, _, hel5, _⟩ := ho4.els
  have HSM := Lib.hid (Fl.refSame a4 a5 cap4 cap5 LQ LQ w4 hel4 hel5 (by have := HLQ.out; omega) (by have := HLQ.out; omega))
  have h4 := StW.tmod HR3.out.1 T2.out.e2 hs4
  have hok := HOK.out
  rw [HE.out] at hok
  have hb := T2.out.both H3.out h4 hok.ok hok.okt hok.kn
  have HH := Lib.hid hb
  clear hb h4 hok
  clear hown4 ho4 hs4 hel4 hel5 HO3 HFT
  go_wp2_with fail
  refine HSM.out.mono ?_; rintro e w5 ⟨⟨Bq, rfl, hBq⟩, m5⟩
  have hBq := hBq (by first | trivial | rfl)
  subst hBq
  have HH5 := Lib.hid (HH.out.1.new m5)
  have HM5 := Lib.hid ((M2.out.trans HH.out.2).trans (m5.mono (S' := fun i => B0 ≤ i) fun _ _ e => e.elim))
  clear m5 HH
  go_wp2_with fail
  go_ret
  exact ⟨by simp, by rw [HE.out]; exact HH5.out, HM5.out⟩
end Go.Proofs.YtjmfhcliggjdgaaGreatDoor

/- The laws on conn: steps as they come in; no condition. -/
namespace Go.Proofs.YtjmfhcliggjdgaaGreatDoor
open Go Go.RowKit Go.ChangeShapes Go.WideShapes Go.ChangeAt Go.Deep

/-- A slice of steps that came in. -/
def IsScs (w : World) (a : Option Addr) (len : Nat) (l : List Sc) : Prop :=
  l.length = len ∧ (len : Int) ≤ 9223372036854775807 ∧ ∀ i t, l[i]? = some t → OkSc w.heap.size w t ∧ ∃ x, a = some x ∧ w.cell? (x.add (i * 7)) = some (.int .i64 t.d) ∧
    w.cell? ⟨(x.add (i * 7)).block, (x.add (i * 7)).off + 1, none⟩ = some (.int .i64 t.p) ∧ w.cell? ⟨(x.add (i * 7)).block, (x.add (i * 7)).off + 2, none⟩ = some (.int .i64 t.n) ∧ w.cell? ⟨(x.add (i * 7)).block, (x.add (i * 7)).off + 3, none⟩ = some (.int .i64 t.now) ∧
    w.cell? ⟨(x.add (i * 7)).block, (x.add (i * 7)).off + 4, none⟩ = some (.slice t.a t.len t.cap) ∧ w.cell? ⟨(x.add (i * 7)).block, (x.add (i * 7)).off + 5, none⟩ = some (.slice t.ma t.ml t.mc) ∧ w.cell? ⟨(x.add (i * 7)).block, (x.add (i * 7)).off + 6, none⟩ = some (.int .u64 t.z)
theorem below_cell {w w' : World} (hb : Below w.heap.size w w') {p : Addr} {v : Value} (h : w.cell? p = some v) : w'.cell? p = some v := by
  have := World.block_lt_of_cell? w p h
  rw [hb.cell (by omega)]; exact h
theorem OkSc.below {B0 : Nat} {w w' : World} {s : Sc} (h : OkSc B0 w s) (hb : Below w.heap.size w w') : OkSc B0 w' s := ⟨h.sl.below hb (Nat.le_refl _), h.by8, h.may.below hb (Nat.le_refl _), h.mlow, h.i⟩
/-- What a step of the laws reads of it, later. -/
def ScAt (w w' : World) (a : Option Addr) (i : Nat) (t : Sc) : Prop := OkSc w.heap.size w' t ∧ ∃ x, a = some x ∧ w'.cell? (x.add (i * 7)) = some (.int .i64 t.d) ∧
    w'.cell? ⟨(x.add (i * 7)).block, (x.add (i * 7)).off + 1, none⟩ = some (.int .i64 t.p) ∧ w'.cell? ⟨(x.add (i * 7)).block, (x.add (i * 7)).off + 2, none⟩ = some (.int .i64 t.n) ∧ w'.cell? ⟨(x.add (i * 7)).block, (x.add (i * 7)).off + 3, none⟩ = some (.int .i64 t.now) ∧
    w'.cell? ⟨(x.add (i * 7)).block, (x.add (i * 7)).off + 4, none⟩ = some (.slice t.a t.len t.cap) ∧ w'.cell? ⟨(x.add (i * 7)).block, (x.add (i * 7)).off + 5, none⟩ = some (.slice t.ma t.ml t.mc) ∧ w'.cell? ⟨(x.add (i * 7)).block, (x.add (i * 7)).off + 6, none⟩ = some (.int .u64 t.z)
theorem IsScs.at {w w' : World} {a : Option Addr} {len : Nat} {l : List Sc} (h : IsScs w a len l) (hb : Below w.heap.size w w') {i : Nat} {t : Sc} (hi : l[i]? = some t) : ScAt w w' a i t := by
  obtain ⟨hk, x, rfl, h0, h1, h2, h3, h4, h5, h6⟩ := h.2.2 i t hi
  exact ⟨hk.below hb, x, rfl, below_cell hb h0, below_cell hb h1, below_cell hb h2, below_cell hb h3, below_cell hb h4, below_cell hb h5, below_cell hb h6⟩
theorem sl_low {w : World} {a : Option Addr} {n c : Nat} {xs : List Int} (h : Sl w (.slice a n c) 1 n (intL xs)) : ∀ x m c', Value.slice a n c = .slice (some x) m c' → 0 < n → x.block < w.heap.size := fun x m c' e h0 => by
  obtain ⟨hl, a', c'', hv, hc⟩ := sl_ints h
  cases hv
  cases e
  obtain ⟨x', e', hx⟩ := hc 0 _ (List.getElem?_eq_getElem (by omega))
  cases e'
  have := World.block_lt_of_cell? w _ hx
  rwa [Addr.add_block] at this
section
variable {H : Type} {enc : TypeId × Value → H} {W : World}
theorem open_bytes {v : Value} {n : Nat} {y : DataW H × List MemPlace} (t3 : DataW.trod enc Tryz.prog W 0 (fun _ => true) true n 24 [v] = some y) : ∃ sa sl sc bs, v = .slice sa sl sc ∧ Sl W (.slice sa sl sc) 1 sl (byts bs) ∧ ∀ x ∈ bs, x < 256 := by
  rcases open_ints Tryz.underlying24 Tryz.underlying5 (by kernel_rfl) t3 with ⟨hcs, _⟩ | ⟨y, l2, c2, zs, hcs, _, hl2, hm2, hz, _, hcell, hwz⟩
  · simp at hcs
    subst hcs
    exact ⟨none, 0, 0, [], rfl, Sl.nil _ _, by simp⟩
  · simp at hcs
    subst hcs
    obtain ⟨bs, hbl, hb, hs⟩ := IsRow.bytes (w := W) (a := some y) (len := l2) (cap := c2) (zs := zs) (.inr ⟨_, rfl, hl2, hm2, by simpa using hz, hcell, hwz⟩)
    exact ⟨some y, l2, c2, bs, rfl, hs, hb⟩
theorem open_mays {v : Value} {n : Nat} {y : DataW H × List MemPlace} (t3 : DataW.trod enc Tryz.prog W 0 (fun _ => true) true n 25 [v] = some y) : ∃ sa sl sc zs, v = .slice sa sl sc ∧ Sl W (.slice sa sl sc) 1 sl (intL zs) := by
  rcases open_ints Tryz.underlying25 Tryz.underlying3 (by kernel_rfl) t3 with ⟨hcs, _⟩ | ⟨y, l2, c2, zs, hcs, _, hl2, hm2, hz, _, hcell, hwz⟩
  · simp at hcs
    subst hcs
    exact ⟨none, 0, 0, [], rfl, Sl.nil _ _⟩
  · simp at hcs
    subst hcs
    have hr : IsRow .i64 W (some y) l2 c2 zs := .inr ⟨_, rfl, hl2, hm2, by simpa using hz, hcell, hwz⟩
    exact ⟨some y, l2, c2, zs.take l2, rfl, hr.sl⟩
end
set_option maxRecDepth 100000 in
set_option maxHeartbeats 1000000 in
theorem open_scs {H : Type} {enc : TypeId × Value → H} {W : World} {base : Nat} {v : Value} {d : DataW H} {p : List MemPlace} (hval : Value.okWide Tryz.prog W .any base 23 v) (h : DataW.Trod enc Tryz.prog W 0 (fun _ => true) true 23 v d p) :
    ∃ a len cap l, v = .slice a len cap ∧ IsScs W a len l := by
  obtain ⟨a, len, cap, rfl⟩ := okWide_slice Tryz.underlying23 hval
  refine ⟨a, len, cap, ?_⟩
  obtain ⟨fuel, hf⟩ := h
  rcases open_fields Tryz.underlying23 Tryz.underlying28 (by kernel_rfl) (by kernel_rfl) hf with hcs | ⟨x, l, c, m, hcs, hl, hm, hmm, hi⟩
  · simp [Value.cells] at hcs
    obtain ⟨rfl, rfl, rfl⟩ := hcs
    exact ⟨[], rfl, rfl, by decide, fun i t h => by simp at h⟩
  · simp [Value.cells] at hcs
    obtain ⟨rfl, rfl, rfl⟩ := hcs
    have key : ∀ i, i < len → ∃ t : Sc, OkSc W.heap.size W t ∧ W.cell? (x.add (i * 7)) = some (.int .i64 t.d) ∧ W.cell? (x.add (i * 7 + 1)) = some (.int .i64 t.p) ∧ W.cell? (x.add (i * 7 + 2)) = some (.int .i64 t.n) ∧ W.cell? (x.add (i * 7 + 3)) = some (.int .i64 t.now) ∧ W.cell? (x.add (i * 7 + 4)) = some (.slice t.a t.len t.cap) ∧ W.cell? (x.add (i * 7 + 5)) = some (.slice t.ma t.ml t.mc) ∧ W.cell? (x.add (i * 7 + 6)) = some (.int .u64 t.z) := by
      intro i hi'
      obtain ⟨n, g⟩ := hi i (by rw [hmm]; simp; omega)
      obtain ⟨v0, y0, c0, t0⟩ := g 0 _ rfl
      obtain ⟨v1, y1, c1, t1⟩ := g 1 _ rfl
      obtain ⟨v2, y2, c2, t2⟩ := g 2 _ rfl
      obtain ⟨v3, y3, c3, t3⟩ := g 3 _ rfl
      obtain ⟨v4, y4, c4, t4⟩ := g 4 _ rfl
      obtain ⟨v5, y5, c5, t5⟩ := g 5 _ rfl
      obtain ⟨v6, y6, c6, t6⟩ := g 6 _ rfl
      obtain ⟨k0, e0, _⟩ := DataW.trod_int Tryz.underlying3 t0
      obtain ⟨k1, e1, _, w1⟩ := DataW.trod_int Tryz.underlying3 t1
      obtain ⟨k2, e2, _, w2⟩ := DataW.trod_int Tryz.underlying3 t2
      obtain ⟨k3, e3, _⟩ := DataW.trod_int Tryz.underlying3 t3
      obtain ⟨k6, e6, _⟩ := DataW.trod_int Tryz.underlying26 t6
      cases e0; cases e1; cases e2; cases e3; cases e6
      obtain ⟨sa, sl, sc, bs, rfl, hs, hb⟩ := open_bytes t4
      obtain ⟨ma, ml, mc, zs, rfl, hz⟩ := open_mays t5
      exact ⟨⟨k0, k1, k2, k3, sa, sl, sc, bs, ma, ml, mc, zs, k6⟩, ⟨hs, hb, hz, sl_low hz, w1, w2⟩, c0, c1, c2, c3, c4, c5, c6⟩
    obtain ⟨F, hF⟩ : ∃ F : Nat → Sc, ∀ i, i < len → OkSc W.heap.size W (F i) ∧ W.cell? (x.add (i * 7)) = some (.int .i64 (F i).d) ∧ W.cell? (x.add (i * 7 + 1)) = some (.int .i64 (F i).p) ∧ W.cell? (x.add (i * 7 + 2)) = some (.int .i64 (F i).n) ∧ W.cell? (x.add (i * 7 + 3)) = some (.int .i64 (F i).now) ∧ W.cell? (x.add (i * 7 + 4)) = some (.slice (F i).a (F i).len (F i).cap) ∧ W.cell? (x.add (i * 7 + 5)) = some (.slice (F i).ma (F i).ml (F i).mc) ∧ W.cell? (x.add (i * 7 + 6)) = some (.int .u64 (F i).z) := by
      refine ⟨fun i => if h : i < len then (key i h).choose else default, fun i h => ?_⟩
      simp only [h, dif_pos]
      exact (key i h).choose_spec
    refine ⟨(List.range len).map F, rfl, by simp, by unfold maxLen at hm; omega, fun i t ht => ?_⟩
    have hil : i < len := by simpa using (List.getElem?_eq_some_iff.1 ht).1
    rw [List.getElem?_map, List.getElem?_range hil] at ht
    simp at ht
    subst ht
    obtain ⟨gk, g0, g1, g2, g3, g4, g5, g6⟩ := hF i hil
    refine ⟨gk, x, rfl, g0, ?_, ?_, ?_, ?_, ?_, ?_⟩
    · rw [← Go.Deep.add_add] at g1; exact g1
    · rw [← Go.Deep.add_add] at g2; exact g2
    · rw [← Go.Deep.add_add] at g3; exact g3
    · rw [← Go.Deep.add_add] at g4; exact g4
    · rw [← Go.Deep.add_add] at g5; exact g5
    · rw [← Go.Deep.add_add] at g6; exact g6
set_option maxRecDepth 100000 in
set_option maxHeartbeats 1000000 in
theorem open_sc {H : Type} {enc : TypeId × Value → H} {W : World} {base : Nat} {v : Value} {d : DataW H} {p : List MemPlace} (hval : Value.okWide Tryz.prog W .any base 28 v) (hd : DataW.Trod enc Tryz.prog W 0 (fun _ => true) true 28 v d p) :
    ∃ s : Sc, v = .agg (spC s) ∧ OkSc W.heap.size W s := by
  have hK : Tryz.prog.cellsOf 28 = 7 := by kernel_rfl
  have hI : Tryz.prog.cellsOf 3 = 1 := by kernel_rfl
  have hU : Tryz.prog.cellsOf 26 = 1 := by kernel_rfl
  have hS : Tryz.prog.cellsOf 24 = 1 := by kernel_rfl
  have hM : Tryz.prog.cellsOf 25 = 1 := by kernel_rfl
  obtain ⟨v0, v1, v2, v3, v4, v5, v6, rfl⟩ : ∃ v0 v1 v2 v3 v4 v5 v6, v = .agg #[v0, v1, v2, v3, v4, v5, v6] := by
    simp only [Value.okWide, Tryz.underlying28] at hval
    obtain ⟨cs, h1, h2, _⟩ := hval
    rw [hK] at h2
    obtain ⟨l⟩ := cs
    match l, h2 with
    | [c0, c1, c2, c3, c4, c5, c6], _ => exact ⟨c0, c1, c2, c3, c4, c5, c6, h1⟩
  obtain ⟨fuel, hf⟩ := hd
  obtain ⟨ys, n, _, _, _, hyl, hg⟩ := DataW.trod_struct Tryz.underlying28 hf
  have hyl' : ys.length = 7 := hyl
  have g : ∀ j (h : j < 7), ys[j]? = some (ys[j]'(by omega)) := fun j h => List.getElem?_eq_getElem (by omega)
  have t0 := (hg 0 _ rfl).trans (g 0 (by decide))
  have t1 := (hg 1 _ rfl).trans (g 1 (by decide))
  have t2 := (hg 2 _ rfl).trans (g 2 (by decide))
  have t3 := (hg 3 _ rfl).trans (g 3 (by decide))
  have t4 := (hg 4 _ rfl).trans (g 4 (by decide))
  have t5 := (hg 5 _ rfl).trans (g 5 (by decide))
  have t6 := (hg 6 _ rfl).trans (g 6 (by decide))
  replace t0 : DataW.trod enc Tryz.prog W 0 (fun _ => true) true n 3 (([v0, v1, v2, v3, v4, v5, v6].drop 0).take (Tryz.prog.cellsOf 3)) = some _ := t0
  replace t1 : DataW.trod enc Tryz.prog W 0 (fun _ => true) true n 3 (([v0, v1, v2, v3, v4, v5, v6].drop 1).take (Tryz.prog.cellsOf 3)) = some _ := t1
  replace t2 : DataW.trod enc Tryz.prog W 0 (fun _ => true) true n 3 (([v0, v1, v2, v3, v4, v5, v6].drop 2).take (Tryz.prog.cellsOf 3)) = some _ := t2
  replace t3 : DataW.trod enc Tryz.prog W 0 (fun _ => true) true n 3 (([v0, v1, v2, v3, v4, v5, v6].drop 3).take (Tryz.prog.cellsOf 3)) = some _ := t3
  replace t4 : DataW.trod enc Tryz.prog W 0 (fun _ => true) true n 24 (([v0, v1, v2, v3, v4, v5, v6].drop 4).take (Tryz.prog.cellsOf 24)) = some _ := t4
  replace t5 : DataW.trod enc Tryz.prog W 0 (fun _ => true) true n 25 (([v0, v1, v2, v3, v4, v5, v6].drop 5).take (Tryz.prog.cellsOf 25)) = some _ := t5
  replace t6 : DataW.trod enc Tryz.prog W 0 (fun _ => true) true n 26 (([v0, v1, v2, v3, v4, v5, v6].drop 6).take (Tryz.prog.cellsOf 26)) = some _ := t6
  rw [hI] at t0 t1 t2 t3
  rw [hU] at t6
  rw [hS] at t4
  rw [hM] at t5
  obtain ⟨k0, e0, _⟩ := DataW.trod_int Tryz.underlying3 t0
  obtain ⟨k1, e1, _, w1⟩ := DataW.trod_int Tryz.underlying3 t1
  obtain ⟨k2, e2, _, w2⟩ := DataW.trod_int Tryz.underlying3 t2
  obtain ⟨k3, e3, _⟩ := DataW.trod_int Tryz.underlying3 t3
  obtain ⟨k6, e6, _⟩ := DataW.trod_int Tryz.underlying26 t6
  simp at e0 e1 e2 e3 e6
  subst e0; subst e1; subst e2; subst e3; subst e6
  obtain ⟨sa, sl, sc, bs, rfl, hs, hb⟩ := open_bytes t4
  obtain ⟨ma, ml, mc, zs, rfl, hz⟩ := open_mays t5
  exact ⟨⟨k0, k1, k2, k3, sa, sl, sc, bs, ma, ml, mc, zs, k6⟩, rfl, hs, hb, hz, sl_low hz, w1, w2⟩
/-- Five numbers. -/
structure X5 where
  x : Int
  y : Int
  z : Int
  u : Int
  v : Int
def x5V (s : X5) : Value := .agg #[.int .i64 s.x, .int .i64 s.y, .int .i64 s.z, .int .i64 s.u, .int .i64 s.v]
set_option maxRecDepth 100000 in
set_option maxHeartbeats 1000000 in
theorem open_x5 {H : Type} {enc : TypeId × Value → H} {W : World} {base : Nat} {v : Value} {d : DataW H} {p : List MemPlace} (hval : Value.okWide Tryz.prog W .any base 22 v) (hd : DataW.Trod enc Tryz.prog W 0 (fun _ => true) true 22 v d p) :
    ∃ s : X5, v = x5V s ∧ True := by
  have A : Go.WideMaps.ArrKey Tryz.prog 22 3 5 := ⟨Tryz.underlying22, by kernel_rfl, by kernel_rfl, by kernel_rfl⟩
  obtain ⟨c0, c1, c2, c3, c4, rfl⟩ : ∃ c0 c1 c2 c3 c4, v = .agg #[c0, c1, c2, c3, c4] := by
    simp only [Value.okWide, A.hu] at hval
    obtain ⟨cs, h1, h2, _⟩ := hval
    rw [A.size] at h2
    obtain ⟨l⟩ := cs
    match l, h2 with
    | [c0, c1, c2, c3, c4], _ => exact ⟨c0, c1, c2, c3, c4, h1⟩
  obtain ⟨fuel, hf⟩ := hd
  cases fuel with
  | zero => simp [DataW.trod] at hf
  | succ n =>
    rw [DataW.trod_step] at hf
    unfold DataW.trodStep at hf
    simp only [A.hu, Value.cells] at hf
    rw [if_pos (by rw [A.size]; rfl)] at hf
    simp only [Option.map_eq_some_iff] at hf
    obtain ⟨xs, hx, e1⟩ := hf
    rw [show List.range 5 = [0, 1, 2, 3, 4] from rfl, List.mapM_cons, List.mapM_cons, List.mapM_cons, List.mapM_cons, List.mapM_cons, List.mapM_nil] at hx
    simp only [bind, Option.bind_eq_some_iff, pure, Option.some.injEq, A.one] at hx
    obtain ⟨y0, h0, _, ⟨y1, h1, _, ⟨y2, h2, _, ⟨y3, h3, _, ⟨y4, h4, _, rfl, rfl⟩, rfl⟩, rfl⟩, rfl⟩, rfl⟩ := hx
    obtain ⟨a, ea, rfl, wa⟩ := DataW.trod_int Tryz.underlying3 h0
    obtain ⟨b, eb, rfl, wb⟩ := DataW.trod_int Tryz.underlying3 h1
    obtain ⟨c, ec, rfl, wc⟩ := DataW.trod_int Tryz.underlying3 h2
    obtain ⟨d, ed, rfl, wd⟩ := DataW.trod_int Tryz.underlying3 h3
    obtain ⟨e, ee, rfl, we⟩ := DataW.trod_int Tryz.underlying3 h4
    simp at ea eb ec ed ee
    subst ea; subst eb; subst ec; subst ed; subst ee
    exact ⟨⟨a, b, c, d, e⟩, rfl, trivial⟩
end Go.Proofs.YtjmfhcliggjdgaaGreatDoor

/- The laws on conn: one that lives; no condition but the table. -/
namespace Go.Proofs.YtjmfhcliggjdgaaGreatDoor
open Go Go.RowKit

theorem two_of {R : LT} {a b : Int} (h : R.map (fun q => q.2.p) = [a, b]) : ∃ x y, R = [x, y] ∧ x.2.p = a := by
  match R, h with
  | [x, y], h =>
    simp only [List.map_cons, List.map_nil, List.cons.injEq] at h
    exact ⟨x, y, rfl, h.1⟩
theorem setA_start : setA 2 3 [] 7 (some (2, F13 2 [3])) = (0, [(7, F13 2 [3])]) := by
  unfold setA
  dsimp only
  rw [if_pos ⟨by decide, rfl⟩, if_pos (by decide)]
  rfl
theorem next_start : (nextS 2 4 2 [(7, F13 2 [3])] (F13 2 []) 1 3 [7] (keysL [((7 : Int), F13 2 [3])]) ([], [])).2.map (fun q => q.2.p) = [7, 7] := by decide +kernel
set_option maxRecDepth 100000 in
set_option maxHeartbeats 4000000 in
theorem awake18 (w : World) (hT : TabW w) :
    Calls Tryz.prog 7 #[] w fun e w' => e = .returned (.bool true) ∧ Mod (fun _ => False) w w' := by
  have HT0 := Lib.hid hT
  have HG : Hid (gTab < w.heap.size) := hT.lt
  have HCN := Lib.hid (connNew 2 3 4 2 5 w (by decide) (by unfold Fl.NewOk; decide) hT)
  clear hT
  go_enter Tryz.func7, Tryz.ntmps7
  go_wp2_with fail
  refine HCN.out.mono ?_; rintro e w1 ⟨s, b, M, g, t, tM, rfl, h1, m1, l1⟩
  have H1 := Lib.hid h1
  have M1 := Lib.hid m1
  have L1 := Lib.hid l1
  have ma := (Mod.refl (fun _ => False) w1).alloc (.cells #[.int .u8 3] 5)
  have H1a := Lib.hid (h1.new ma)
  have M1a := Lib.hid (m1.trans ma)
  have HS1 : Hid (Calls Tryz.prog 12 #[.int .i64 2, .slice (some ⟨w1.heap.size, 0, none⟩) 1 1] (w1.alloc (.cells #[.int .u8 3] 5)) (SetsP 2 (F13 2 [3]) (w1.alloc (.cells #[.int .u8 3] 5)))) := setsOk 2 (some ⟨w1.heap.size, 0, none⟩) 1 1 [3] _ (by decide) (byt1 w1 3) (by decide)
  clear ma h1 m1 l1 HCN
  go_wp2_with fail
  refine HS1.out.mono ?_; rintro e w2 ⟨s1, g1, r1, q1, rfl, b1, _, m2, l1, _⟩
  have X1 := Lib.hid b1
  have H2 := Lib.hid (H1a.out.new m2)
  have M2 := Lib.hid (M1a.out.trans m2)
  have HP1 : Hid (∀ i, SWb s b M g t tM [] i → i < s1 ∧ i < g1) := fun i hi => by have := H1a.out.lt hi; omega
  clear b1 m2 l1 HS1 H1 H1a M1 M1a
  have HS3 : Hid (Calls Tryz.prog 12 #[.int .i64 2, .slice none 0 0] w2 (SetsP 2 (F13 2 []) w2)) := setsOk 2 none 0 0 [] w2 (by decide) (Sl.nil _ _) (by decide)
  go_wp2_with fail
  refine HS3.out.mono ?_; rintro e w3 ⟨s3, g3, r3, q3, rfl, b3, _, m3, l3, _⟩
  have X3 := Lib.hid b3
  have X1a := Lib.hid (X1.out.mod m3 (fun h => h) (fun h => h))
  have H3 := Lib.hid (H2.out.new m3)
  have M3 := Lib.hid (M2.out.trans m3)
  have HP3 : Hid (∀ i, SWb s b M g t tM [] i → i < s3 ∧ i < g3) := fun i hi => by have := H2.out.lt hi; omega
  clear b3 m3 l3 HS3 H2 M2 X1
  have HB : Hid (Calls Tryz.prog 25 #[.pointer (some ⟨s, 0, none⟩), .int .i64 7, .pointer (some ⟨s1, 0, none⟩)] w3 fun e w' => e = .returned (.int .i64 0) ∧ StS s b M g t tM 2 3 4 2 5 [] [(7, F13 2 [3])] [] w3 w') := by
    have := connBits 7 (some s1) (some (2, F13 2 [3])) s b M g t tM 2 3 4 2 5 [] [] [] w3 H3.out rfl (HT0.out.mod M3.out fun h => h) (by decide) (by decide) (Fl.i64_of (by decide) (by decide)) (lo := min s1 g1) (.inr ⟨s1, g1, 2, _, rfl, rfl, X1a.out, Nat.min_le_left _ _, Nat.min_le_right _ _⟩) (fun i hi => by have := HP1.out i (.inr (.inl hi)); omega)
    rw [setA_start] at this
    exact this
  go_wp2_with fail
  refine HB.out.mono ?_; rintro e w4 ⟨rfl, h4⟩
  obtain ⟨k1, h4, f4, m4, n4⟩ := h4
  have H4 := Lib.hid h4
  have F4 := Lib.hid f4
  have M4 := Lib.hid (M3.out.new m4 L1.out)
  have X3a := Lib.hid (X3.out.mod m4 (fun e => by have := HP3.out _ e; omega) (fun e => by have := HP3.out _ e; omega))
  have N4 : Hid (∀ i, SWb s b M g t tM k1 i → w.heap.size ≤ i) := fun i hi => (n4 i hi).elim (L1.out i) fun e => Nat.le_trans M3.out.size e
  clear h4 f4 m4 n4 HB M3 X3
  have ma := (Mod.refl (fun _ => False) w4).alloc (.cells #[.int .i64 7] 3)
  have HNX : Hid (Calls Tryz.prog 13 #[.pointer (some ⟨s, 0, none⟩), .int .i64 1, .pointer (some ⟨s3, 0, none⟩), .slice (some ⟨w4.heap.size, 0, none⟩) 1 1, .int .u64 3] (w4.alloc (.cells #[.int .i64 7] 3)) fun e w' => RqE (nextS 2 4 2 [(7, F13 2 [3])] (F13 2 []) 1 3 [7] (keysL [((7 : Int), F13 2 [3])]) ([], [])).2 0 (w4.alloc (.cells #[.int .i64 7] 3)) e w' ∧ Mod (· = tM) (w4.alloc (.cells #[.int .i64 7] 3)) w') := by
    have h := connNext 1 3 (some s3) (some (2, F13 2 [])) (.slice (some ⟨w4.heap.size, 0, none⟩) 1 1) 1 [7] s b M g t tM 2 3 4 2 5 k1 [(7, F13 2 [3])] [] (w4.alloc (.cells #[.int .i64 7] 3)) (H4.out.new ma) ((HT0.out.mod M4.out fun h => h).mod ma fun h => h) (lo := 0) (.inr ⟨s3, g3, 2, _, rfl, rfl, X3a.out.mod ma (fun h => h) (fun h => h), Nat.zero_le _, Nat.zero_le _⟩) (sl_new w4 #[.int .i64 7] 3) (by decide)
      (fun x m c e _ => by cases e; have := H4.out.tb.lt.2; show w4.heap.size ≠ tM; omega) F4.out (Fl.Okk.nil 4 2 (by decide) (by decide)) ⟨by unfold Rising; simp, by decide, by intro q hq; simp at hq; subst hq; exact Fl.i64_of (by decide) (by decide)⟩ (by decide) (by decide) (by intro q hq; simp at hq) (by decide) (fun i hi => by have := N4.out i hi; have := HG.out; omega)
    rw [nextA_some (by decide)] at h
    exact h.mono fun e w' ⟨h1, _, h3⟩ => ⟨h1, h3⟩
  have M4a := Lib.hid (M4.out.trans ma)
  have HTM : Hid (w.heap.size ≤ tM) := N4.out tM (.inr (.inr (.inr rfl)))
  clear ma M4 H4 F4 X3a N4
  go_wp2_with fail
  refine HNX.out.mono ?_; rintro e w5 ⟨⟨v, rfl, o5⟩, m5⟩
  have hmap := next_start
  obtain ⟨R, hR⟩ : ∃ R, R = (nextS 2 4 2 [(7, F13 2 [3])] (F13 2 []) 1 3 [7] (keysL [((7 : Int), F13 2 [3])]) ([], [])).2 := ⟨_, rfl⟩
  rw [← hR] at o5 hmap
  clear hR
  obtain ⟨⟨x0, p0, t0⟩, ⟨x1, p1, t1⟩, rfl, hp0⟩ := two_of hmap
  dsimp only at hp0
  subst hp0
  obtain ⟨a, cap, rfl, _, hel, _⟩ := o5.els
  obtain ⟨X, rfl, c0, _, _⟩ := Fl.rqEl hel (Nat.le_refl _) (i := 0) rfl
  have M5 := Lib.hid (M4a.out.new m5 (fun i e => by rw [e]; exact HTM.out))
  have c0' : w5.cell? X = some (.int .i64 7) := by rw [Nat.zero_mul] at c0; exact c0
  clear o5 hel m5 HNX hmap c0
  go_wp2_with fail
  go_ret
  exact ⟨by simp, M5.out⟩
end Go.Proofs.YtjmfhcliggjdgaaGreatDoor

/- The laws on conn: the same numbers; how both begin; a step, whole; no condition but the table. -/
namespace Go.Proofs.YtjmfhcliggjdgaaGreatDoor
open Go Go.RowKit

set_option maxHeartbeats 1000000 in
theorem same10 (va vb : Value) (xs : List Int) (n : Nat) (w : World) (ha : Sl w va 1 n (intL xs)) (hb : Sl w vb 1 n (intL xs)) (hn : n ≤ 9007199254740992) :
    Calls Tryz.prog 18 #[va, vb] w fun e w' => e = .returned (.bool true) ∧ Mod (fun _ => False) w w' := by
  have hl := ha.len
  rw [List.length_map, Nat.mul_one] at hl
  have form : ∀ v, Sl w v 1 n (intL xs) → ∃ a c, v = .slice a n c ∧ ∀ i, i < n → ∃ x, a = some x ∧ w.cell? (x.add i) = some (.int .i64 (xs.getD i 0)) := by
    intro v h
    rcases h with ⟨rfl, rfl, _⟩ | ⟨x, c, rfl, _, h⟩
    · exact ⟨none, 0, rfl, fun i hi => by omega⟩
    · refine ⟨some x, c, rfl, fun i hi => ⟨x, rfl, h i _ ?_⟩⟩
      rw [List.getElem?_map, List.getD_eq_getElem?_getD, List.getElem?_eq_getElem (by omega)]; rfl
  obtain ⟨aa, ca, rfl, fa⟩ := form va ha
  obtain ⟨ab, cb, rfl, fb⟩ := form vb hb
  have FA := Lib.hid fa
  have FB := Lib.hid fb
  clear ha hb hl form fa fb
  go_enter Tryz.func18, Tryz.ntmps18
  go_wp2_with fail
  go_loopw [5] (fun i wr => ∃ k : Nat, i = .int .i64 k ∧ k ≤ n ∧ Draws w wr) (fun i _ => n - (intOf i).toNat)
  case atStart => exact ⟨0, rfl, by omega, 0, rfl⟩
  case round =>
    obtain ⟨k, rfl, hk, nd, rfl⟩ := hrel
    by_cases hlt : k < n
    · obtain ⟨xa, rfl, ga⟩ := FA.out k hlt
      obtain ⟨xb, rfl, gb⟩ := FB.out k hlt
      generalize xs.getD k 0 = z at ga gb
      have hlt' : (k : Int) < n := by omega
      go_wp2_with fail
      refine wp_region_stages0 [0, 0, 0, 1, 0, 0, 0, 1, 0] (by kernel_rfl) (by kernel_rfl) ?_
      repeat (first | (refine stage_any (fun K hK => ?_); go_simp; refine hK _ _ ?_; clear hK K) | (refine stage_pin (fun K hK => ?_); go_simp; refine hK _ _ ?_; clear hK K))
      refine stage_nil ?_
      rintro _ ⟨n2, rfl⟩
      go_wp2_with fail
      go_roundw
      case rel => exact ⟨k + 1, by go_num, by omega, _, rfl⟩
      case measure => simp [intOf]; omega
    · go_wp2_with fail
      go_ret
      exact ⟨rfl, (Mod.refl _ w).drewN nd⟩

/-- How both begin. -/
theorem TwoS.start {w w1 w2 : World} {s b M g t tM r b' base t' tb n : Nat} {pm mo ea pa : Int} (hB : BoardOk n pm) (hF : Fl.NewOk mo ea pa) (hT : TabW w) (h1 : SW w1 s b M g t tM n pm mo ea pa [] []) (hm1 : Mod (fun _ => False) w w1) (hlo : ∀ i, SWb s b M g t tM [] i → w.heap.size ≤ i)
    (h2 : RW w2 r b' base t' tb n pm mo ea pa [] []) (hm2 : Mod (fun _ => False) w1 w2) (hlo2 : ∀ i, RWb w2 r b' t' [] i → w1.heap.size ≤ i) : TwoS w2 w.heap.size s r n pm mo ea pa [] [] := by
  have hz1 := hm1.size
  unfold BoardOk at hB
  unfold Fl.NewOk at hF
  refine ⟨b, M, g, t, tM, [], b', base, t', tb, [], h1.new hm2, h2, rfl, rfl, fun i hi hj => ?_, fun i hi => ?_, ⟨List.Pairwise.nil, by simp; omega, by simp⟩, Fl.Okk.nil _ _ (by omega) (by omega), by simp, ⟨⟨by omega, by omega, by omega⟩, by omega, by omega, by omega, by omega, by omega⟩, (hT.mod hm1 fun h => h).mod hm2 fun h => h, hT.lt⟩
  · have := h1.lt hi
    have := hlo2 i hj
    omega
  · rcases hi with hi | hi
    · exact hlo i hi
    · have := hlo2 i hi
      omega
/-- A step, whole. -/
theorem step18 (q : Sc) (B0 s r n : Nat) (pm mo ea pa : Int) (L : LB) (T : LT) (w : World) (h : TwoS w B0 s r n pm mo ea pa L T) (ho : OkSc B0 w q) (hml : q.ml ≤ 100) :
    Calls Tryz.prog 10 #[.pointer (some ⟨s, 0, none⟩), .pointer (some ⟨r, 0, none⟩), .agg (spC q)] w fun e w' => e = .returned (.bool true) ∧ TwoS w' B0 s r n pm mo ea pa (stepC n pm mo ea pa L T q).1 (stepC n pm mo ea pa L T q).2 ∧ Mod (fun i => B0 ≤ i) w w' := by
  obtain ⟨b, M, g, t, tM, ks, b', base, t', tb, ks', h⟩ := h
  by_cases h0 : q.d = 0
  · exact stepC0 q B0 s b M g t tM ks r b' base t' tb ks' n pm mo ea pa L T w h ho h0
  by_cases h1 : q.d = 1
  · exact stepC1 q B0 s b M g t tM ks r b' base t' tb ks' n pm mo ea pa L T w h ho h1
  by_cases h2 : q.d = 2
  · exact stepC2 q B0 s b M g t tM ks r b' base t' tb ks' n pm mo ea pa L T w h ho h2
  by_cases h3 : q.d = 3
  · exact stepC3 q B0 s b M g t tM ks r b' base t' tb ks' n pm mo ea pa L T w h ho hml h3
  by_cases h4 : q.d = 4
  · exact stepC4 q B0 s b M g t tM ks r b' base t' tb ks' n pm mo ea pa L T w h ho h4
  by_cases h5 : q.d = 5
  · exact stepC5 q B0 s b M g t tM ks r b' base t' tb ks' n pm mo ea pa L T w h ho h5
  · exact stepC6 q B0 s b M g t tM ks r b' base t' tb ks' n pm mo ea pa L T w h ho ⟨h0, h1, h2, h3, h4, h5⟩

end Go.Proofs.YtjmfhcliggjdgaaGreatDoor
