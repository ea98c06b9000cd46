/- Package files: a disk as it lies in memory; meet, find, Used, Size, Read, Off; no condition. -/
import Derived.Test.YtdlplablojdjlaaJf
namespace Go.Proofs.Ytdlplablojdjlaa
open Go Go.RowKit Go.IntWalk
open Go.Maps (Keyed)

/-- Block i holds cells of one of the types ts. -/
def isT (ts : List TypeId) (w : World) (i : Nat) : Prop := ∃ cs t z, w.heap[i]? = some (.cells cs t z) ∧ t ∈ ts
/-- Of the blocks that were there only those of the call's own, of the types ts, may have turned. -/
def TM (ts : List TypeId) (base : Nat) (w w' : World) : Prop := Mod (fun i => base ≤ i ∧ isT ts w i) w w'
section
variable {ts ts' : List TypeId} {base : Nat} {w w' a b c : World}
theorem TM.refl (ts : List TypeId) (base : Nat) (w : World) : TM ts base w w := Mod.refl _ w
theorem TM.trans (h : TM ts base a b) (k : TM ts base b c) : TM ts base a c :=
  ⟨k.os.trans h.os, k.tape.trans h.tape, k.output.trans h.output, Nat.le_trans h.size k.size, fun i hi hs => by
    have h1 := h.block i hi hs
    refine (k.block i (Nat.lt_of_lt_of_le hi h.size) fun e => hs ⟨e.1, ?_⟩).trans h1
    obtain ⟨cs, t, z, h2, h3⟩ := e.2
    exact ⟨cs, t, z, h1.symm.trans h2, h3⟩⟩
theorem TM.more (h : TM ts base a b) (hs : ∀ t ∈ ts, t ∈ ts') : TM ts' base a b := Mod.mono h fun k _ e => by
  obtain ⟨e1, cs, t, z, h2, h3⟩ := e
  exact ⟨e1, cs, t, z, h2, hs t h3⟩
theorem TM.of {S : Nat → Prop} (h : Mod S a b) (hs : ∀ i, i < a.heap.size → S i → base ≤ i ∧ isT ts a i) : TM ts base a b := Mod.mono h hs
theorem TM.new (h : Mod (fun _ => False) a b) : TM ts base a b := TM.of h fun _ _ e => e.elim
theorem TM.blk {i : Nat} {cs : Array Value} {t : TypeId} (h : TM ts base w w') (hb : Blk w i cs t) (ht : t ∉ ts) : Blk w' i cs t :=
  hb.mod h fun e => by
    obtain ⟨_, cs', t', z, h2, h3⟩ := e
    rw [show w.heap[i]? = _ from hb] at h2
    cases h2
    exact ht h3
theorem TM.owns {e : TypeId} {size : Nat} {v : Value} {n : Nat} {xs : List Value} {base' : Nat} (h : TM ts base w w') (ho : w.ownsRow base' e size v n xs) (ht : e ∉ ts) : w'.ownsRow base' e size v n xs := by
  obtain ⟨h1, h2⟩ := ho
  rcases h2 with h2 | ⟨g, cap, cur, hv, hb, hh, rest⟩
  · exact ⟨h1, .inl h2⟩
  · exact ⟨h1, .inr ⟨g, cap, cur, hv, hb, h.blk hh ht, rest⟩⟩
theorem TM.smap {i : Nat} {M : MV} (h : TM ts base w w') (hb : SMap w i M) : SMap w' i M := hb.mod h fun e => by
  obtain ⟨_, cs', t', z, h2, h3⟩ := e
  obtain ⟨es, c, h4⟩ := hb.isMap
  rw [h4] at h2
  cases h2
theorem isT.of_blk {i : Nat} {cs : Array Value} {t : TypeId} (h : Blk w i cs t) (ht : t ∈ ts) : isT ts w i := ⟨cs, t, _, h, ht⟩
theorem owns_isT {e : TypeId} {size : Nat} {v : Value} {n : Nat} {xs : List Value} (h : w.ownsRow base e size v n xs) (ht : e ∈ ts) : ∀ i, v.ownBlock = some i → base ≤ i ∧ isT ts w i := by
  intro i hi
  refine ⟨(h.lt i hi).1, ?_⟩
  rcases h.2 with ⟨h2, _⟩ | ⟨g, cap, cur, hv, hb, hh, _⟩
  · rw [h2] at hi; cases hi
  · rw [hv] at hi
    cases hi
    exact ⟨_, _, _, hh, ht⟩
end
/-- The types of what a disk writes in place, and a journal. -/
abbrev tD : List TypeId := [49, 78, 45, 74]
abbrev tJ : List TypeId := 64 :: tD

/-- A file: its block, its bytes as they are and as they are synced. -/
structure FileS where
  b : Nat
  n : List Nat
  s : List Nat
abbrev QF := Bool → Option FileS
abbrev LT3 := Nat × Int × Option Addr × Nat × Nat
def fp (b : Nat) : Value := .pointer (some ⟨b, 0, none⟩)
def mvq (q : QF) : MV := fun o => (q o).map fun F => fp F.b
def flat (ls : List LT3) : List Value := ls.flatMap fun p => [fp p.1, .int .i64 p.2.1, .slice p.2.2.1 p.2.2.2.1 p.2.2.2.2]
structure FK (w : World) (base : Nat) (F : FileS) : Prop where
  k : ∃ nv sv, Blk w F.b #[nv, sv] 78 ∧ OB w base nv F.n ∧ OB w base sv F.s
  ge : base ≤ F.b
  sm : F.n.length ≤ 1048576
structure DK (w : World) (base d R m : Nat) (q : QF) (st : Value) (ms : List Nat) (wv : Value) (ls : List LT3) : Prop where
  hd : Blk w d #[.int .i64 R, .map (some m), st, wv, .slice none 0 0, .bool false] 49
  hm : SMap w m (mvq q)
  hst : w.ownsRow base 45 1 st ms.length (ms.map fun m => .map (some m))
  hwv : w.ownsRow base 74 3 wv ls.length (flat ls)
  hf : ∀ o F, q o = some F → FK w base F
  ne : ∀ F G, q false = some F → q true = some G → F.b ≠ G.b
  bd : base ≤ d
  rm : R ≤ 16777216
section
variable {ts : List TypeId} {base base' d R m : Nat} {w w' : World} {q : QF} {st wv : Value} {ms : List Nat} {ls : List LT3} {F : FileS}
theorem TM.ob {v : Value} {bs : List Nat} (h : TM ts base w w') (ho : OB w base' v bs) (ht : 5 ∉ ts) : OB w' base' v bs := TM.owns h ho ht
theorem FK.tm (h : FK w base F) (hm : TM ts base' w w') (h1 : 5 ∉ ts) (h2 : 78 ∉ ts) : FK w' base F := by
  obtain ⟨⟨nv, sv, a, b, c⟩, g, s⟩ := h
  exact ⟨⟨nv, sv, hm.blk a h2, hm.ob b h1, hm.ob c h1⟩, g, s⟩
theorem DK.tm (h : DK w base d R m q st ms wv ls) (hm : TM ts base' w w') (h1 : 5 ∉ ts) (h2 : ∀ t ∈ tD, t ∉ ts) : DK w' base d R m q st ms wv ls :=
  ⟨hm.blk h.hd (h2 _ (by simp)), hm.smap h.hm, hm.owns h.hst (h2 _ (by simp)), hm.owns h.hwv (h2 _ (by simp)), fun o F e => (h.hf o F e).tm hm h1 (h2 _ (by simp)), h.ne, h.bd, h.rm⟩
theorem DK.new (h : DK w base d R m q st ms wv ls) (hm : Mod (fun _ => False) w w') : DK w' base d R m q st ms wv ls := h.tm (ts := []) (base' := 0) (TM.new hm) (by simp) (by simp)
theorem DK.drewN (h : DK w base d R m q st ms wv ls) (n : Nat) : DK (w.drewN n) base d R m q st ms wv ls := h.new ((Mod.refl _ w).drewN n)
theorem mvq_some {q : QF} {o : Bool} {F : FileS} (h : q o = some F) : mvq q o = some (fp F.b) := by simp [mvq, h]
theorem mvq_none {q : QF} {o : Bool} (h : q o = none) : mvq q o = none := by simp [mvq, h]
end
set_option maxRecDepth 100000 in
set_option maxHeartbeats 400000 in
theorem jMeet (d : Nat) (a0 a1 a2 a3 : Value) (w : World) (h : Blk w d #[a0, a1, a2, a3, .slice none 0 0, .bool false] 49) :
    Calls Try.prog 59 #[.pointer (some ⟨d, 0, none⟩), .bool true] w fun e w' => e = .returned (.int .i64 0) ∧ w' = w := by
  have c4 := h.cell 4
  have c5 := h.cell 5
  clear h
  go_enter Try.func59, Try.ntmps59
  go_wp2_with fail
  go_ret
  exact ⟨rfl, rfl⟩
set_option maxRecDepth 100000 in
set_option maxHeartbeats 400000 in
theorem jFind {base d R m : Nat} {w : World} {q : QF} {st wv : Value} {ms : List Nat} {ls : List LT3} (o : Bool) (F : FileS) (h : DK w base d R m q st ms wv ls) (hq : q o = some F) :
    Calls Try.prog 52 #[.pointer (some ⟨d, 0, none⟩), .string (nmOf o), .bool true] w fun e w' => e = .returned (.tuple #[fp F.b, .int .i64 0]) ∧ w' = w := by
  have c1 := h.hd.cell 1
  have hl := h.hm.lookOk o
  rw [mvq_some hq] at hl
  have HM := Lib.hid (jMeet d _ _ _ _ w h.hd)
  unfold fp at hl ⊢
  obtain ⟨S, hS⟩ : ∃ S, S = nmOf o := ⟨_, rfl⟩
  rw [← hS] at hl ⊢
  clear h hq hS
  go_enter Try.func52, Try.ntmps52
  go_wp2_with fail
  refine HM.out.mono ?_; rintro e w' ⟨rfl, rfl⟩
  go_wp2_with fail
  go_ret2
  exact ⟨rfl, rfl⟩
set_option maxRecDepth 100000 in
set_option maxHeartbeats 400000 in
theorem jSizeNo {base d R m : Nat} {w : World} {q : QF} {st wv : Value} {ms : List Nat} {ls : List LT3} (o : Bool) (h : DK w base d R m q st ms wv ls) (hq : q o = none) :
    Calls Try.prog 17 #[.pointer (some ⟨d, 0, none⟩), .string (nmOf o)] w fun e w' => e = .returned (.tuple #[.int .i64 0, .int .i64 4]) ∧ w' = w := by
  have c1 := h.hd.cell 1
  have hl := h.hm.lookOk o
  rw [mvq_none hq] at hl
  obtain ⟨S, hS⟩ : ∃ S, S = nmOf o := ⟨_, rfl⟩
  rw [← hS] at hl ⊢
  clear h hq hS
  go_enter Try.func17, Try.ntmps17
  go_wp2_with fail
  go_ret2
  exact ⟨rfl, rfl⟩
theorem OB.len {w : World} {base : Nat} {v : Value} {bs : List Nat} (h : OB w base v bs) : ∃ a c, v = .slice a bs.length c ∧ bs.length ≤ c ∧ (∀ x, a = some x → base ≤ x.block ∧ x.block < w.heap.size) := by
  have hlt := World.ownsRow.lt h
  rcases h.2 with ⟨rfl, h2⟩ | ⟨g, cap, cur, rfl, hb, hh, h1, _⟩
  · exact ⟨none, 0, by rw [h2], by rw [h2]; exact Nat.le_refl _, fun x e => by cases e⟩
  · exact ⟨_, _, rfl, h1, fun x e => by cases e; exact hlt g rfl⟩
set_option maxRecDepth 100000 in
set_option maxHeartbeats 400000 in
theorem jSizeOf {base d R m : Nat} {w : World} {q : QF} {st wv : Value} {ms : List Nat} {ls : List LT3} (o : Bool) (F : FileS) (h : DK w base d R m q st ms wv ls) (hq : q o = some F) :
    Calls Try.prog 17 #[.pointer (some ⟨d, 0, none⟩), .string (nmOf o)] w fun e w' => e = .returned (.tuple #[.int .i64 F.n.length, .int .i64 0]) ∧ w' = w := by
  have c1 := h.hd.cell 1
  have hl := h.hm.lookOk o
  rw [mvq_some hq] at hl
  unfold fp at hl
  obtain ⟨nv, sv, hb, hn, hs⟩ := (h.hf o F hq).k
  obtain ⟨a, c, rfl, _, _⟩ := hn.len
  have f0 := hb.cell 0
  obtain ⟨S, hS⟩ : ∃ S, S = nmOf o := ⟨_, rfl⟩
  rw [← hS] at hl ⊢
  clear h hq hS hb hn hs
  go_enter Try.func17, Try.ntmps17
  go_wp2_with fail
  go_ret2
  exact ⟨rfl, rfl⟩
set_option maxRecDepth 100000 in
set_option maxHeartbeats 400000 in
theorem jReadNo {base d R m : Nat} {w : World} {q : QF} {st wv : Value} {ms : List Nat} {ls : List LT3} (o : Bool) (k n : Int) (h : DK w base d R m q st ms wv ls) (hq : q o = none) :
    Calls Try.prog 18 #[.pointer (some ⟨d, 0, none⟩), .string (nmOf o), .int .i64 k, .int .i64 n] w fun e w' => e = .returned (.tuple #[.slice none 0 0, .int .i64 4]) ∧ w' = w := by
  have c1 := h.hd.cell 1
  have c5 := h.hd.cell 5
  have hl := h.hm.lookOk o
  rw [mvq_none hq] at hl
  obtain ⟨S, hS⟩ : ∃ S, S = nmOf o := ⟨_, rfl⟩
  rw [← hS] at hl ⊢
  clear h hq hS
  go_enter Try.func18, Try.ntmps18
  go_wp2_with fail
  go_ret2
  exact ⟨rfl, rfl⟩
theorem BS.whole {w : World} {base : Nat} {a : Option Addr} {c : Nat} {bs : List Nat} (h : OB w base (.slice a bs.length c) bs) : BS w (.slice a bs.length c) bs := h.bs
set_option maxRecDepth 100000 in
set_option maxHeartbeats 1000000 in
theorem jReadOf {base d R m : Nat} {w : World} {q : QF} {st wv : Value} {ms : List Nat} {ls : List LT3} (o : Bool) (F : FileS) (h : DK w base d R m q st ms wv ls) (hq : q o = some F) (hne : F.n ≠ []) :
    Calls Try.prog 18 #[.pointer (some ⟨d, 0, none⟩), .string (nmOf o), .int .i64 0, .int .i64 F.n.length] w fun e w' => ∃ v, e = .returned (.tuple #[v, .int .i64 0]) ∧ OB w' w.heap.size v F.n ∧ Mod (fun _ => False) w w' := by
  have c1 := h.hd.cell 1
  have c5 := h.hd.cell 5
  have hl := h.hm.lookOk o
  rw [mvq_some hq] at hl
  unfold fp at hl
  obtain ⟨nv, sv, hb, hn, hs⟩ := (h.hf o F hq).k
  have hsm := (h.hf o F hq).sm
  obtain ⟨a, c, rfl, hcap, _⟩ := hn.len
  have hlen : 0 < F.n.length := List.length_pos_iff.2 hne
  obtain ⟨X, hX⟩ : ∃ X, a = some X := by
    cases a with
    | none => rcases hn.bs.sl with ⟨e, h2, _⟩ | ⟨x, c', e, _⟩ ; · omega
              · cases e
    | some X => exact ⟨X, rfl⟩
  subst hX
  have hbs : BS w (.slice (some X) F.n.length c) F.n := hn.bs
  have HB := Lib.hid (jClone _ F.n w hbs hsm)
  have f0 := hb.cell 0
  obtain ⟨S, hS⟩ : ∃ S, S = nmOf o := ⟨_, rfl⟩
  rw [← hS] at hl ⊢
  obtain ⟨k, hk⟩ : ∃ k, k = F.n.length := ⟨_, rfl⟩
  rw [← hk] at HB hlen hcap f0 hsm ⊢
  have hx0 : X.add 0 = X := by simp [Addr.add]
  have hkk : (0 : Int) ≤ k := by omega
  have hkc : (k : Int) ≤ c := by omega
  clear h hq hS hb hn hs hbs hne hk
  go_enter Try.func18, Try.ntmps18
  go_wp2_with fail
  refine HB.out.mono ?_; rintro e w' ⟨v', rfl, o1, m1⟩
  have O1 := Lib.hid o1
  have M1 := Lib.hid m1
  clear o1 m1
  go_wp2_with fail
  go_ret2
  exact ⟨_, rfl, O1.out, M1.out⟩
set_option maxRecDepth 100000 in
set_option maxHeartbeats 400000 in
theorem jOff {base d R m : Nat} {w : World} {q : QF} {st wv : Value} {ms : List Nat} {ls : List LT3} (h : DK w base d R m q st ms wv ls) :
    Calls Try.prog 16 #[.pointer (some ⟨d, 0, none⟩)] w fun e w' => e = .returned (.bool false) ∧ w' = w := by
  have c5 := h.hd.cell 5
  clear h
  go_enter Try.func16, Try.ntmps16
  go_wp2_with fail
  go_ret
  exact ⟨rfl, rfl⟩
/-- How many bytes there are in the files that T tells. -/
def lenq (q : QF) (o : Bool) : Nat := match q o with | some F => F.n.length | none => 0
def sumT (q : QF) (T : Bool → Bool) : Nat := (if T false then lenq q false else 0) + (if T true then lenq q true else 0)
theorem sumT_none {q : QF} {T : Bool → Bool} (h : ∀ o, T o = false) : sumT q T = 0 := by simp [sumT, h]
theorem sumT_step {q : QF} {T : Bool → Bool} {x : Bool} (h : T x = true) : sumT q T = sumT q (fun o => T o && !(o == x)) + lenq q x := by
  cases x <;> simp [sumT, h]
  omega
theorem sumT_all (q : QF) : sumT q (fun o => (mvq q o).isSome) = lenq q false + lenq q true := by
  unfold sumT lenq mvq
  cases h0 : q false <;> cases h1 : q true <;> simp [h0, h1]
set_option maxRecDepth 100000 in
set_option maxHeartbeats 1000000 in
theorem jUsed {base d R m : Nat} {w : World} {q : QF} {st wv : Value} {ms : List Nat} {ls : List LT3} (h : DK w base d R m q st ms wv ls) :
    Calls Try.prog 54 #[.pointer (some ⟨d, 0, none⟩)] w fun e w' => e = .returned (.int .i64 (lenq q false + lenq q true : Nat)) ∧ Mod (fun _ => False) w w' := by
  have c1 := h.hd.cell 1
  have HD := Lib.hid h
  have HM := Lib.hid h.hm
  have hT : lenq q false + lenq q true ≤ 4194304 := by
    have h1 : ∀ o, lenq q o ≤ 1048576 := fun o => by
      unfold lenq
      cases e : q o with
      | none => simp
      | some F => exact (HD.out.hf o F e).sm
    have := h1 false; have := h1 true; omega
  obtain ⟨N, hN⟩ : ∃ N, N = lenq q false + lenq q true := ⟨_, rfl⟩
  rw [← hN] at hT ⊢
  have HN := Lib.hid hN
  clear h hN
  go_enter Try.func54, Try.ntmps54
  go_wp2_with (at_range; refine srange_start rfl _ rfl rfl HM.out ?_; intro w0 hr0 m0 z0)
  obtain ⟨B, hB⟩ : ∃ B, B = w.heap.size := ⟨_, rfl⟩
  rw [← hB] at hr0 ⊢
  have HR0 := Lib.hid hr0
  have HB := Lib.hid hB
  have M0 := Lib.hid m0
  clear hr0 hB z0 m0 c1 HM
  go_frame
  go_loopw [3] (fun v wr => ∃ (c : Nat) (T : Bool → Bool), v = .int .i64 c ∧ Hid (c + sumT q T = N) ∧ Hid (SRange wr m B (mvq q) T) ∧ Hid (Mod (· = B) w0 wr)) (fun _ wr => wr.rangeLeft m B)
  case atStart => exact ⟨0, _, rfl, (by show _ = _; rw [Nat.zero_add, sumT_all, HN.out]), HR0, Mod.refl _ _⟩
  case round =>
    obtain ⟨c, T, rfl, hsum, hrg, hm⟩ := hrel
    go_wp2_with (at_next; refine srange_next rfl _ rfl rfl hrg.out ?_ ?_)
    · unfold NoT
      intro hnil
      have hfin : c = N := by have := hsum.out; rw [sumT_none hnil] at this; exact this
      have HM2 := Lib.hid (M0.out.new hm.out (by intro i hi; have := HB.out; omega))
      subst hfin
      clear hnil hsum hrg hm
      go_wp2_with fail
      go_ret
      exact ⟨rfl, HM2.out⟩
    · unfold AllB
      intro x v w1 hx hmx hrg1 hlt hm1 hz1 hen
      obtain ⟨F, hF, rfl⟩ : ∃ F, q x = some F ∧ v = fp F.b := by
        unfold mvq at hmx
        cases e : q x with
        | none => rw [e] at hmx; cases hmx
        | some F => rw [e] at hmx; cases hmx; exact ⟨F, rfl, rfl⟩
      have hl : lenq q x = F.n.length := by unfold lenq; rw [hF]
      have hst := sumT_step (q := q) hx
      rw [hl] at hst
      have HMM := Lib.hid (hm.out.trans hm1)
      have hdk := HD.out.new (M0.out.new HMM.out (by intro i hi; have := HB.out; omega))
      obtain ⟨nv, sv, hb, hn, hs⟩ := (hdk.hf x F hF).k
      obtain ⟨a, cap, rfl, _, _⟩ := hn.len
      have f0 := hb.cell 0
      have hsum2 : c + F.n.length + sumT q (fun o => T o && !(o == x)) = N := by have := hsum.out; omega
      have hle : c + F.n.length ≤ N := by omega
      have HS2 := Lib.hid hsum2
      have HRG := Lib.hid hrg1
      have HLT := Lib.hid hlt
      unfold fp at hen
      obtain ⟨k, hk⟩ : ∃ k, k = F.n.length := ⟨_, rfl⟩
      rw [← hk] at f0 HS2 hle
      have hwk : IntKind.i64.wrap ((c : Int) + k) = ((c + k : Nat) : Int) := by rw [wrapI (by omega) (by omega)]; omega
      clear hx hmx hrg1 hlt hm1 hz1 hl hst hdk hb hn hs hsum2 hsum hrg hm hF hk
      unfold fp
      go_wp2_with fail
      refine ⟨⟨c + k, _, ?_, HS2, HRG, HMM.out⟩, HLT.out⟩
      first | rfl | go_num
end Go.Proofs.Ytdlplablojdjlaa
