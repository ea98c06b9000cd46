/- Package journal: put, up to its steps; no condition. -/
import Derived.Test.YtdlplablojdjlaaJs
namespace Go.Proofs.Ytdlplablojdjlaa
open Go Go.RowKit

def ptSt (base j d N S C : Nat) (q : QF) (W : List Nat) (L : Nat) (w : World) : Nat → Prop
  | 0 => JB w j d N S C ∧ ∃ m st ms wv, DK w base d 16777216 m q st ms wv [] ∧ ms.length ≤ 1
  | 1 => JB w j d N S C ∧ ∃ m st ms wv fb, DK w base d 16777216 m (putQ q true ⟨fb, [], []⟩) st ms wv [] ∧ ms.length ≤ 2
  | 2 => JB w j d N S C ∧ ∃ m st ms wv fb x, DK w base d 16777216 m (putQ q true ⟨fb, W, []⟩) st ms wv [(fb, x)] ∧ ms.length ≤ 2
  | 3 => JB w j d N S C ∧ ∃ m st ms wv fb, DK w base d 16777216 m (putQ q true ⟨fb, W, W⟩) st ms wv [] ∧ ms.length ≤ 2
  | 4 => JB w j d N S C ∧ ∃ m st ms wv fb, DK w base d 16777216 m (qNew ⟨fb, W, W⟩) st ms wv [] ∧ ms.length ≤ 3
  | 5 => JB w j d N S C ∧ ∃ m st wv fb, DK w base d 16777216 m (qNew ⟨fb, W, W⟩) st [m] wv []
  | _ => JB w j d 1 L L ∧ ∃ m st wv fb, DK w base d 16777216 m (qNew ⟨fb, W, W⟩) st [m] wv []
structure PtP (w0 : World) (base j d N S C bj bf bw bb : Nat) (gv : Value) (q : QF) (W : List Nat) (a : Option Addr) (L c : Nat) (u : Value) (fs : List Stp) (k : Nat) (w : World) : Prop where
  x : Blk w bj #[.pointer (some ⟨j, 0, none⟩)] 31
  f : Blk w bf #[.string (nmOf true)] 9
  v : Blk w bw #[u] 37
  o : OB w base u W
  y : Blk w bb #[.slice a L c] 37
  z : w.ownsRow base 39 1 gv fs.length (fs.map stV)
  t : TM tJ base w0 w
  s : ptSt base j d N S C q W L w k
def ptFs (bj bf bw bb d : Nat) : List Stp := [(44, #[], #[.pointer (some ⟨bj, 0, none⟩), .pointer (some ⟨bf, 0, none⟩)]), (45, #[], #[.pointer (some ⟨bj, 0, none⟩), .pointer (some ⟨bf, 0, none⟩), .pointer (some ⟨bw, 0, none⟩)]),
  (46, #[], #[.pointer (some ⟨bj, 0, none⟩), .pointer (some ⟨bf, 0, none⟩)]), (47, #[], #[.pointer (some ⟨bj, 0, none⟩), .pointer (some ⟨bf, 0, none⟩)]), (49, #[.pointer (some ⟨d, 0, none⟩)], #[]), (50, #[], #[.pointer (some ⟨bb, 0, none⟩), .pointer (some ⟨bj, 0, none⟩)])]
theorem ptStep {w0 : World} {base j d N S C bj bf bw bb : Nat} {gv : Value} {q : QF} {W : List Nat} {a : Option Addr} {L c : Nat} {u : Value} (hj : base ≤ j) (hq : q true = none) (hW0 : 0 < W.length) (hW1 : W.length ≤ 300000) (k : Nat) (p : Stp) (w' : World) (hp : (ptFs bj bf bw bb d)[k]? = some p) (h : PtP w0 base j d N S C bj bf bw bb gv q W a L c u (ptFs bj bf bw bb d) k w') :
    (∀ args w, (callFunc p.1 args).run Try.prog w = .ok (.enter p.1 args) w) ∧ Calls Try.prog p.1 (p.2.1 ++ p.2.2) w' fun e w'' => e = .returned (.int .i64 0) ∧ PtP w0 base j d N S C bj bf bw bb gv q W a L c u (ptFs bj bf bw bb d) (k + 1) w'' := by
  have keep : ∀ {w'' : World}, TM tJ base w' w'' → ptSt base j d N S C q W L w'' (k + 1) → PtP w0 base j d N S C bj bf bw bb gv q W a L c u (ptFs bj bf bw bb d) (k + 1) w'' := fun ht hs =>
    ⟨ht.blk h.x (by simp), ht.blk h.f (by simp), ht.blk h.v (by simp), ht.ob h.o (by simp), ht.blk h.y (by simp), ht.owns h.z (by simp), h.t.trans ht, hs⟩
  match k, hp with
  | 0, hp =>
    cases hp
    obtain ⟨hb, m, st, ms, wv, hd, hm⟩ := h.s
    refine ⟨enters_of Try.func44 (by kernel_rfl) rfl, (jPut2 ⟨hb, hj, h.x, h.f⟩ hd hq (by omega)).mono ?_⟩
    rintro e w'' ⟨h1, ⟨fb, m', st', h2⟩, h3⟩
    exact ⟨h1, keep (h3.more (by simp)) ⟨h3.blk hb (by simp), _, _, _, _, fb, h2, by simp; omega⟩⟩
  | 1, hp =>
    cases hp
    obtain ⟨hb, m, st, ms, wv, fb, hd, hm⟩ := h.s
    refine ⟨enters_of Try.func45 (by kernel_rfl) rfl, (jPut3 ⟨hb, hj, h.x, h.f⟩ hd (putQ_at q true _) h.v h.o hW0 hW1).mono ?_⟩
    rintro e w'' ⟨h1, ⟨wv', x, h2⟩, h3⟩
    rw [putQ_put] at h2
    exact ⟨h1, keep (h3.more (by simp)) ⟨h3.blk hb (by simp), _, _, _, _, fb, x, h2, hm⟩⟩
  | 2, hp =>
    cases hp
    obtain ⟨hb, m, st, ms, wv, fb, x, hd, hm⟩ := h.s
    refine ⟨enters_of Try.func46 (by kernel_rfl) rfl, (jPut4 (F := ⟨fb, W, []⟩) ⟨hb, hj, h.x, h.f⟩ hd (putQ_at q true _)).mono ?_⟩
    rintro e w'' ⟨h1, ⟨wv', h2⟩, h3⟩
    rw [putQ_put] at h2
    exact ⟨h1, keep (h3.more (by simp)) ⟨h3.blk hb (by simp), _, _, _, _, fb, h2, hm⟩⟩
  | 3, hp =>
    cases hp
    obtain ⟨hb, m, st, ms, wv, fb, hd, hm⟩ := h.s
    refine ⟨enters_of Try.func47 (by kernel_rfl) rfl, (jPut5 (F := ⟨fb, W, W⟩) ⟨hb, hj, h.x, h.f⟩ hd (putQ_at q true _) (by omega)).mono ?_⟩
    rintro e w'' ⟨h1, ⟨m', st', h2⟩, h3⟩
    exact ⟨h1, keep (h3.more (by simp)) ⟨h3.blk hb (by simp), _, _, _, _, fb, h2, by simp; omega⟩⟩
  | 4, hp =>
    cases hp
    obtain ⟨hb, m, st, ms, wv, fb, hd, hm⟩ := h.s
    refine ⟨enters_of Try.func49 (by kernel_rfl) rfl, (jSyncNames hd (by have := (show JB w' j d N S C from hb).lt; omega)).mono ?_⟩
    rintro e w'' ⟨h1, st', h2, h3⟩
    exact ⟨h1, keep (h3.more (by simp)) ⟨h3.blk hb (by simp), _, _, _, fb, h2⟩⟩
  | 5, hp =>
    cases hp
    obtain ⟨hb, m, st, wv, fb, hd⟩ := h.s
    refine ⟨enters_of Try.func50 (by kernel_rfl) rfl, (jPut6 hb hj hd h.x h.y).mono ?_⟩
    rintro e w'' ⟨h1, ⟨h2, h4⟩, h3⟩
    exact ⟨h1, keep h3 ⟨h2, _, _, _, fb, h4⟩⟩
  | k + 6, hp => simp [ptFs] at hp
theorem infoFn : (Try.prog.info? 39).map (fun i => (i.zero, i.size, i.bytes)) = some (some .nilFunc, 1, 8) := by kernel_rfl
theorem hadd : nmOf false ++ (⟨#[46, 110, 101, 119]⟩ : ByteArray) = nmOf true := by decide
theorem len_encs (rs : List (List Nat)) : rs.length ≤ (encs rs).length := by
  induction rs with
  | nil => exact Nat.le_refl _
  | cons r t ih => rw [encs_cons]; simp; omega
/-- What lies between two rounds of put's loop. -/
structure PL (w w' : World) (bj bf bb j : Nat) (s : Value) (E : List Nat) : Prop where
  x : Blk w' bj #[.pointer (some ⟨j, 0, none⟩)] 31
  f : Blk w' bf #[.string (nmOf true)] 9
  b : Blk w' bb #[s] 37
  o : OB w' w.heap.size s E
  m : Mod (fun _ => False) w w'
  ge : w.heap.size ≤ bb
theorem PL.new {w w' w'' : World} {bj bf bb j : Nat} {s : Value} {E : List Nat} (h : PL w w' bj bf bb j s E) (hm : Mod (fun _ => False) w' w'') : PL w w'' bj bf bb j s E :=
  ⟨h.x.mod hm (fun e => e), h.f.mod hm (fun e => e), h.b.mod hm (fun e => e), h.o.new hm, h.m.trans hm, h.ge⟩
/-- What has been made of the whole. -/
structure WS (w : World) (bj bf bb j L : Nat) (s : Value) (E : List Nat) (oM oH : Option Value) (oA : Option Nat) (oB oC : Option Value) (w' : World) : Prop where
  p : PL w w' bj bf bb j s E
  m : ∀ v, oM = some v → OB w' w.heap.size v (hd 0 0)
  h : ∀ v, oH = some v → BS w' v (hd 1 L)
  a : ∀ b, oA = some b → Blk w' b #[.slice none 0 0] 37 ∧ w.heap.size ≤ b
  b : ∀ v, oB = some v → ∃ vm vh, Sl w' v 1 3 [vm, vh, s] ∧ OB w' w.heap.size vm (hd 0 0) ∧ BS w' vh (hd 1 L)
  c : ∀ v, oC = some v → OB w' w.heap.size v (hd 0 0 ++ (hd 1 L ++ E))
theorem WS.new {w : World} {bj bf bb j L : Nat} {s : Value} {E : List Nat} {oM oH : Option Value} {oA : Option Nat} {oB oC : Option Value} {w' w'' : World} (z : WS w bj bf bb j L s E oM oH oA oB oC w') (hm : Mod (fun _ => False) w' w'') : WS w bj bf bb j L s E oM oH oA oB oC w'' :=
  ⟨z.p.new hm, fun v e => (z.m v e).new hm, fun v e => (z.h v e).new hm, fun b e => ⟨(z.a b e).1.mod hm (fun e => e), (z.a b e).2⟩, fun v e => by
    obtain ⟨vm, vh, h1, h2, h3⟩ := z.b v e
    exact ⟨vm, vh, h1.mod hm (fun _ _ _ _ e => e), h2.new hm, h3.new hm⟩, fun v e => (z.c v e).new hm⟩
theorem zeros16 : (madeCells #[Value.int .u8 0] 16).toList = byts (hd 0 0) := by kernel_rfl
theorem sl_three (w : World) (a b c : Value) (t : TypeId) : Sl (w.alloc (.cells #[a, b, c] t)) (.slice (some ⟨w.heap.size, 0, none⟩) 3 3) 1 3 [a, b, c] := by
  refine .inr ⟨_, _, rfl, rfl, fun j u hj => ?_⟩
  rw [add_g]
  exact ((Blk.new w #[a, b, c] t).cell j).trans (by simpa using hj)
/-- The steps towards the whole: each new block has a number that a variable names. -/
theorem WS.stepM {w : World} {bj bf bb j L : Nat} {s : Value} {E : List Nat} {oH : Option Value} {oA : Option Nat} {oB oC : Option Value} {w' : World} (z : WS w bj bf bb j L s E none oH oA oB oC w') (rn : Nat) :
    WS w bj bf bb j L s E (some (.slice (some ⟨w'.heap.size, 0, none⟩) 16 16)) oH oA oB oC ((w'.drewN rn).alloc (.cells (madeCells #[Value.int .u8 0] 16) 5)) := by
  have ma : Mod (fun _ => False) w' ((w'.drewN rn).alloc (.cells (madeCells #[Value.int .u8 0] 16) 5)) := ((Mod.refl _ w').drewN rn).alloc _
  have z2 := z.new ma
  refine ⟨z2.p, fun v e => ?_, z2.h, z2.a, z2.b, z2.c⟩
  cases e
  have h := owns_alloc (w'.drewN rn) w.heap.size (hd 0 0) z.p.m.size (by decide)
  rw [← zeros16] at h
  exact h
theorem WS.stepA {w : World} {bj bf bb j L : Nat} {s : Value} {E : List Nat} {oM oH : Option Value} {oB oC : Option Value} {w' : World} (z : WS w bj bf bb j L s E oM oH none oB oC w') (rn : Nat) :
    WS w bj bf bb j L s E oM oH (some w'.heap.size) oB oC ((w'.drewN rn).alloc (.cells #[.slice none 0 0] 37)) := by
  have ma : Mod (fun _ => False) w' ((w'.drewN rn).alloc (.cells #[.slice none 0 0] 37)) := ((Mod.refl _ w').drewN rn).alloc _
  have z2 := z.new ma
  exact ⟨z2.p, z2.m, z2.h, fun b e => by cases e; exact ⟨Blk.new (w'.drewN rn) _ _, z.p.m.size⟩, z2.b, z2.c⟩
theorem WS.stepB {w : World} {bj bf bb j L : Nat} {s : Value} {E : List Nat} {vm vh : Value} {oA : Option Nat} {oC : Option Value} {w' : World} (z : WS w bj bf bb j L s E (some vm) (some vh) oA none oC w') (rn : Nat) :
    WS w bj bf bb j L s E (some vm) (some vh) oA (some (.slice (some ⟨w'.heap.size, 0, none⟩) 3 3)) oC ((w'.drewN rn).alloc (.cells #[vm, vh, s] 37)) := by
  have ma : Mod (fun _ => False) w' ((w'.drewN rn).alloc (.cells #[vm, vh, s] 37)) := ((Mod.refl _ w').drewN rn).alloc _
  have z2 := z.new ma
  exact ⟨z2.p, z2.m, z2.h, z2.a, fun v e => by cases e; exact ⟨vm, vh, sl_three (w'.drewN rn) vm vh s _, z2.m vm rfl, z2.h vh rfl⟩, z2.c⟩
theorem WS.callC {w : World} {bj bf bb j L : Nat} {s : Value} {E : List Nat} {oM oH : Option Value} {oA : Option Nat} {vb : Value} {w' : World} (z : WS w bj bf bb j L s E oM oH oA (some vb) none w') (hE : E.length ≤ 200000) :
    Calls Try.prog 41 #[vb] w' fun e w'' => (∃ v', e = .returned v' ∧ WS w bj bf bb j L s E oM oH oA (some vb) (some v') w'') ∧ Mod (fun _ => False) w' w'' := by
  obtain ⟨vm, vh, h1, h2, h3⟩ := z.b vb rfl
  refine (jConcat vb [vm, vh, s] [hd 0 0, hd 1 L, E] w' h1 (fun k u b e1 e2 => ?_) (by simp) (by simp [len_hd]; omega) (by simp [len_hd]; omega)).mono ?_
  · match k, e1, e2 with
    | 0, e1, e2 => cases e1; cases e2; exact h2.bs
    | 1, e1, e2 => cases e1; cases e2; exact h3
    | 2, e1, e2 => cases e1; cases e2; exact z.p.o.bs
    | k + 3, e1, e2 => simp at e1
  · rintro e w'' ⟨v', rfl, o, hm⟩
    have z2 := z.new hm
    refine ⟨⟨v', rfl, z2.p, z2.m, z2.h, z2.a, z2.b, fun v e => ?_⟩, hm⟩
    cases e
    have h : OB w'' w'.heap.size v' (hd 0 0 ++ (hd 1 L ++ E)) := by simpa using o
    exact h.base z.p.m.size
theorem WS.stepH {w : World} {bj bf bb j L : Nat} {s : Value} {E : List Nat} {oM : Option Value} {oA : Option Nat} {oB oC : Option Value} {w' w'' : World} {v : Value} (z : WS w bj bf bb j L s E oM none oA oB oC w') (hm : Mod (fun _ => False) w' w'') (hv : BS w'' v (hd 1 L)) :
    WS w bj bf bb j L s E oM (some v) oA oB oC w'' := by
  have z2 := z.new hm
  exact ⟨z2.p, z2.m, fun u e => by cases e; exact hv, z2.a, z2.b, z2.c⟩
theorem WS.fin {w : World} {bj bf bb j L : Nat} {s : Value} {E : List Nat} {oM oH : Option Value} {ab : Nat} {oB : Option Value} {v : Value} {w' : World} (z : WS w bj bf bb j L s E oM oH (some ab) oB (some v) w') (rn nd : Nat) :
    Blk (((w'.drewN rn).setCell ⟨ab, 0, none⟩ v).drewN nd) ab #[v] 37 ∧ OB (((w'.drewN rn).setCell ⟨ab, 0, none⟩ v).drewN nd) w.heap.size v (hd 0 0 ++ (hd 1 L ++ E)) ∧ (bb ≠ ab → PL w (((w'.drewN rn).setCell ⟨ab, 0, none⟩ v).drewN nd) bj bf bb j s E) := by
  obtain ⟨ha, hge⟩ := z.a ab rfl
  have hv := z.c v rfl
  have h1 : Blk (w'.drewN rn) ab #[.slice none 0 0] _ := ha
  have T := ((TM.new (ts := [37]) (base := 0) ((Mod.refl (fun _ => False) w').drewN rn)).trans (TM.set (ts := [37]) h1 (Nat.zero_le _) (by simp) 0 v)).trans (TM.new ((Mod.refl (fun _ => False) _).drewN nd))
  refine ⟨h1.set 0 v, T.ob hv (by simp), fun hne => ⟨T.blk z.p.x (by simp), T.blk z.p.f (by simp), (show Blk (w'.drewN rn) bb _ _ from z.p.b).setOther (by exact fun e => hne e.symm) v, T.ob z.p.o (by simp), ?_, z.p.ge⟩⟩
  exact ((z.p.m.drewN rn).new (Mod.at1 (· = ab) rfl 0 v) (fun i e => by rw [e]; exact hge)).drewN nd
/-- The whole's box is none of the other ones. -/
theorem WS.neA {w : World} {bj bf bb j L : Nat} {s : Value} {E : List Nat} {oM oH : Option Value} {oB oC : Option Value} {w' : World} (z : WS w bj bf bb j L s E oM oH none oB oC w') : bb ≠ w'.heap.size := fun e => by
  have := z.p.b.lt
  omega
set_option maxRecDepth 100000 in
set_option maxHeartbeats 8000000 in
theorem jPut {base j d m N S C : Nat} {w : World} {q : QF} {st wv v : Value} {ms : List Nat} {vals : List Value} {rs : List (List Nat)} (hb : JB w j d N S C) (hj : base ≤ j) (hdk : DK w base d 16777216 m q st ms wv []) (hq : q true = none) (hms : ms.length ≤ 1)
    (hv : Sl w v 1 rs.length vals) (hr : ∀ (k : Nat) (u : Value) (r : List Nat), vals[k]? = some u → rs[k]? = some r → BS w u r) (hok : OkR rs) (hlen : (encs rs).length ≤ 200000) :
    Calls Try.prog 21 #[.pointer (some ⟨j, 0, none⟩), v] w fun e w' => e = .returned (.int .i64 0) ∧ (∃ m st wv fb, JS w' base j d ⟨fb, hd 0 0 ++ (hd 1 (encs rs).length ++ encs rs), hd 0 0 ++ (hd 1 (encs rs).length ++ encs rs)⟩ m st wv [] 1 (encs rs).length (encs rs).length) ∧ TM tJ base w w' := by
  obtain ⟨n, hn⟩ : ∃ n, n = rs.length := ⟨_, rfl⟩
  have hvl : vals.length = rs.length := by have := hv.len; omega
  obtain ⟨va, vc, rfl⟩ : ∃ a c, v = .slice a n c := by
    rw [hn]
    rcases hv with ⟨rfl, h2, _⟩ | ⟨x, c, rfl, _, _⟩
    · exact ⟨none, 0, by rw [h2]⟩
    · exact ⟨some x, c, rfl⟩
  have hcell : ∀ (k : Nat) (w' : World), Mod (fun _ => False) w w' → k < n → ∃ x u r, va = some x ∧ w'.cell? (x.add k) = some u ∧ rs[k]? = some r ∧ BS w' u r := fun k w' hm hk => by
    have hk2 : k < vals.length := by omega
    have e1 : vals[k]? = some (vals[k]) := List.getElem?_eq_getElem hk2
    have e2 : rs[k]? = some (rs[k]'(by omega)) := List.getElem?_eq_getElem (by omega)
    rcases hv with ⟨h, h2, _⟩ | ⟨x, c', h, _, h3⟩
    · omega
    · cases h
      exact ⟨x, _, _, rfl, hm.cell (h3 k _ e1) (fun h => h), e2, (hr k _ _ e1 e2).new hm⟩
  have hnb : (n : Int) ≤ 200000 := by have := len_encs rs; omega
  have HC := Lib.hid hcell
  have HN := Lib.hid hn
  have HOK := Lib.hid hok
  have HLN := Lib.hid hlen
  have HB := Lib.hid (And.intro hb (And.intro hj (And.intro hdk (And.intro hq hms))))
  have hlt := hb.lt
  have d1 := hb.cell 1
  have HADD := hadd
  have m1 := (Mod.refl (fun _ => False) w).alloc (.cells #[.pointer (some ⟨j, 0, none⟩)] 31)
  obtain ⟨bj, hbj⟩ : ∃ bj, bj = w.heap.size := ⟨_, rfl⟩
  have X1 : Blk (w.alloc (.cells #[.pointer (some ⟨j, 0, none⟩)] 31)) bj #[.pointer (some ⟨j, 0, none⟩)] 31 := by rw [hbj]; exact Blk.new w _ _
  have z1 : (w.alloc (.cells #[.pointer (some ⟨j, 0, none⟩)] 31)).heap.size = w.heap.size + 1 := by simp
  obtain ⟨N1, hN1⟩ : ∃ S, S = nmOf false := ⟨_, rfl⟩
  obtain ⟨N2, hN2⟩ : ∃ S, S = nmOf true := ⟨_, rfl⟩
  rw [← hN1] at d1 HADD
  rw [← hN2] at HADD
  have hsz : N1.size = 4 := by rw [hN1]; rfl
  have HX1 := Lib.hid (And.intro X1 (And.intro m1 z1))
  have HN2 := Lib.hid hN2
  clear hb hj hdk hq hms hv hr hok hlen hvl hcell hn m1 X1 z1 hN1 hN2
  go_enter Try.func21, Try.ntmps21
  go_upto_region 1 with fail
  rw [← hbj]
  have HBJ := Lib.hid hbj
  clear hbj
  have D1 := HX1.out.2.1.cell d1 (fun e => e)
  have x0 := HX1.out.1.cell 0
  generalize w.alloc (.cells #[.pointer (some ⟨j, 0, none⟩)] 31) = w1 at *
  clear d1
  go_upto_region 2 with fail
  have m2 := (Mod.refl (fun _ => False) w1).alloc (.cells #[.string N2] 9)
  obtain ⟨bf, hbf⟩ : ∃ bf, bf = w1.heap.size := ⟨_, rfl⟩
  have F2 : Blk (w1.alloc (.cells #[.string N2] 9)) bf #[.string N2] 9 := by rw [hbf]; exact Blk.new w1 _ _
  have z2 : (w1.alloc (.cells #[.string N2] 9)).heap.size = w1.heap.size + 1 := by simp
  have H2 := Lib.hid (And.intro (HX1.out.1.mod m2 (fun e => e)) (And.intro F2 (And.intro (HX1.out.2.1.trans m2) z2)))
  rw [← hbf]
  clear hbf F2 m2 z2 x0 D1 hsz HADD
  generalize w1.alloc (.cells #[.string N2] 9) = w2 at *
  go_upto_region 3 with fail
  have m3 := (Mod.refl (fun _ => False) w2).alloc (.cells #[.slice none 0 0] 37)
  obtain ⟨bb, hbb⟩ : ∃ bb, bb = w2.heap.size := ⟨_, rfl⟩
  have HP3 : Hid (PL w (w2.alloc (.cells #[.slice none 0 0] 37)) bj bf bb j (.slice none 0 0) (encs (rs.take 0))) := by
    refine ⟨H2.out.1.mod m3 (fun e => e), ?_, by rw [hbb]; exact Blk.new w2 _ _, World.ownsRow_nil _ _ _ _, H2.out.2.2.1.trans m3, by rw [hbb]; exact H2.out.2.2.1.size⟩
    rw [← HN2.out]
    exact H2.out.2.1.mod m3 (fun e => e)
  rw [← hbb]
  clear hbb m3 H2 HX1
  generalize w2.alloc (.cells #[.slice none 0 0] 37) = w3 at *
  go_wp2_with fail
  go_loopw [20] (fun i wr => ∃ (k : Nat) (s : Value), i = .int .i64 k ∧ k ≤ n ∧ Hid (PL w wr bj bf bb j s (encs (rs.take k)))) (fun i _ => n - (intOf i).toNat)
  case atStart => exact ⟨0, _, rfl, Nat.zero_le _, HP3.out⟩
  case round =>
    obtain ⟨k, s, rfl, hk, hpl⟩ := hrel
    by_cases hkn : k < n
    · have hki : (k : Int) < n := by omega
      obtain ⟨x, u, r, rfl, hc, hrk, hbs⟩ := HC.out k wr hpl.out.m hkn
      have hrok := HOK.out r (List.mem_of_getElem? hrk)
      have htk : encs (rs.take (k + 1)) = encs (rs.take k) ++ (r.length :: r) := by
        rw [List.take_add_one, hrk, encs_append]
        simp [encs]
      have hle : (encs (rs.take k)).length + (r.length :: r).length ≤ 200000 := by
        rw [← List.length_append, ← htk]
        have h1 : encs rs = encs (rs.take (k + 1)) ++ encs (rs.drop (k + 1)) := by rw [← encs_append, List.take_append_drop]
        have h2 := HLN.out
        rw [h1, List.length_append] at h2
        omega
      obtain ⟨sa, sc, rfl, _, _⟩ := hpl.out.o.len
      obtain ⟨A, hA⟩ : ∃ A, A = (encs (rs.take k)).length := ⟨_, rfl⟩
      rw [← hA] at hpl hle
      have b0 := hpl.out.b.cell 0
      have HTK := Lib.hid htk
      have HA := Lib.hid hA
      have HEN := Lib.hid (fun rn => jEncoded u r (wr.drewN rn) (hbs.new ((Mod.refl _ wr).drewN rn)) hrok.2)
      obtain ⟨ua, uc, rfl⟩ : ∃ a c, u = .slice a r.length c := by
        rcases hbs.sl with ⟨e, h2, _⟩ | ⟨x, d, e, _, _⟩
        · exact ⟨none, 0, by rw [e, h2]⟩
        · exact ⟨some x, d, e⟩
      obtain ⟨R1, hR1⟩ : ∃ R, R = r.length := ⟨_, rfl⟩
      obtain ⟨R2, hR2⟩ : ∃ R, R = (r.length :: r) := ⟨_, rfl⟩
      rw [← hR2] at hle HTK HEN
      rw [← hR1] at hc HEN
      have HLE := Lib.hid hle
      clear hrk hbs hrok htk hle hA hR1 hR2
      go_wp2_with fail
      refine wp_region2 [(0, 3), (2, 4)] [] (by kernel_rfl) (by kernel_rfl) ?_
      repeat (first | (refine reg_anyT (by rfl) (fun K hK => ?_); go_simp; refine hK _ _ ?_; clear hK K) | (refine reg_read (by rfl) (fun K hK => ?_); go_simp; refine hK _ _ ?_; clear hK K))
      refine reg_hold_v (by rfl) (by rfl) (.slice sa A sc) (fun w' hw' => q_load _ _ _ rfl rfl Try.isAgg37 (hw'.cell b0)) ?_
      repeat (first | (refine reg_anyT (by rfl) (fun K hK => ?_); go_simp; refine hK _ _ ?_; clear hK K) | (refine reg_read (by rfl) (fun K hK => ?_); go_simp; refine hK _ _ ?_; clear hK K))
      refine reg_new (by rfl) (fun rn K hK => ?_); go_simp
      refine (HEN.out rn).mono ?_; rintro e w5 ⟨v5, rfl, o5, m5⟩
      refine hK _ _ ⟨m5.ex, ?_⟩; clear hK K
      have P5 := Lib.hid (hpl.out.new m5.undrew)
      have O5 := Lib.hid o5
      clear m5 o5 HEN hpl b0
      refine reg_app (base := w.heap.size) (by rfl) (by rfl) (.tmp 24) (.tmp 26) 37 5 1 rfl Try.underlying37 infoU8' rfl (by decide) _ _ _ _ _ _ P5.out.m.size P5.out.o rfl rfl O5.out.bs.sl (byts_one _) (by decide) (by have h1 := HA.out; have h2 := HLE.out; omega) ?_
      intro v6 w6 o6 n6 a6
      refine ⟨fun _ => trivial, ?_⟩
      have G6 : OB w6 w.heap.size v6 (encs (rs.take (k + 1))) := by
        rw [HTK.out]
        show World.ownsRow _ _ _ _ _ _ _
        rw [byts_append, List.length_append]
        exact o6
      have T6 : TM [5] w.heap.size w5 w6 := TM.of n6 fun i _ hi => owns_isT P5.out.o (by simp) i hi
      obtain ⟨s6, c6, rfl, _, _⟩ := G6.len
      have X6 := Lib.hid (And.intro (T6.blk P5.out.x (by simp)) (And.intro (T6.blk P5.out.f (by simp)) (And.intro (T6.blk P5.out.b (by simp)) (And.intro (P5.out.m.new n6 (fun i hi => (P5.out.o.lt i hi).1)) P5.out.ge))))
      have HG6 := Lib.hid G6
      obtain ⟨L6, hL6⟩ : ∃ L, L = (encs (rs.take (k + 1))).length := ⟨_, rfl⟩
      rw [← hL6] at HG6 ⊢
      have b6 := X6.out.2.2.1.cell 0
      have f6 := X6.out.2.2.1.frozen 0
      clear o6 n6 a6 G6 T6 P5 O5 hL6
      repeat (first | (refine reg_anyT (by rfl) (fun K hK => ?_); go_simp; refine hK _ _ ?_; clear hK K) | (refine reg_read (by rfl) (fun K hK => ?_); go_simp; refine hK _ _ ?_; clear hK K))
      refine reg_eff (by rfl) (fun rn K hK => ?_); go_simp; refine hK _ _ ?_; clear hK K
      repeat (first | (refine reg_anyT (by rfl) (fun K hK => ?_); go_simp; refine hK _ _ ?_; clear hK K) | (refine reg_read (by rfl) (fun K hK => ?_); go_simp; refine hK _ _ ?_; clear hK K))
      refine reg_nil (fun nd => ?_)
      have mS : Mod (fun _ => False) w6 (w6.drewN rn) := (Mod.refl _ w6).drewN rn
      have T7 := ((TM.new (ts := [37]) (base := w.heap.size) mS).trans (TM.set (ts := [37]) (show Blk (w6.drewN rn) bb _ _ from X6.out.2.2.1) X6.out.2.2.2.2 (by simp) 0 (.slice s6 L6 c6))).trans (TM.new ((Mod.refl (fun _ => False) _).drewN nd))
      have P7 : Hid (PL w (((w6.drewN rn).setCell ⟨bb, 0, none⟩ (.slice s6 L6 c6)).drewN nd) bj bf bb j (.slice s6 L6 c6) (encs (rs.take (k + 1)))) := by
        refine ⟨T7.blk X6.out.1 (by simp), T7.blk X6.out.2.1 (by simp), (show Blk (w6.drewN rn) bb _ _ from X6.out.2.2.1).set 0 _, T7.ob HG6.out (by simp), ?_, X6.out.2.2.2.2⟩
        exact ((X6.out.2.2.2.1.drewN rn).new (Mod.at1 (· = bb) rfl 0 _) (fun i e => by rw [e]; exact X6.out.2.2.2.2)).drewN nd
      clear mS T7 X6 HG6 b6 f6
      generalize ((w6.drewN rn).setCell ⟨bb, 0, none⟩ (.slice s6 L6 c6)).drewN nd = w7 at *
      go_wp2_with fail
      exact ⟨⟨k + 1, _, by go_num, by omega, P7.out⟩, by simp [intOf]; omega⟩
    · have hki : ¬ ((k : Int) < n) := by omega
      have hkk : k = rs.length := by have := HN.out; omega
      have hp := hpl.out
      rw [hkk, List.take_length] at hp
      have HPE := Lib.hid hp
      clear hkk hp hpl
      obtain ⟨sa, sc, rfl, _, _⟩ := HPE.out.o.len
      obtain ⟨L, hL⟩ : ∃ L, L = (encs rs).length := ⟨_, rfl⟩
      rw [← hL] at HPE
      have HLL := Lib.hid hL
      clear hL
      obtain ⟨w8, hw8⟩ : ∃ w8, w8 = wr := ⟨_, rfl⟩
      rw [← hw8] at HPE ⊢
      clear hw8
      go_upto_region 8 with fail
      go_cut [9] from 9 to 35 (fun p wx => ∃ (bw : Nat) (u : Value), p = .pointer (some ⟨bw, 0, none⟩) ∧ Hid (Blk wx bw #[u] 37) ∧ Hid (OB wx w.heap.size u (hd 0 0 ++ (hd 1 L ++ encs rs))) ∧ Hid (PL w wx bj bf bb j (.slice sa L sc) (encs rs)))
      case first =>
        have b0 := HPE.out.b.cell 0
        have hLi : (L : Int) ≤ 200000 := by have := HLN.out; have := HLL.out; omega
        obtain ⟨i0, hi, hz0, hz1, hz2⟩ := info_parts infoU8'
        have HMK : ∀ w' : World, (Instr.makeSlice 37 (.int .i64 16) (.int .i64 16)).run Try.prog w' = .ok (.slice (some ⟨w'.heap.size, 0, none⟩) 16 16) (w'.alloc (.cells (madeCells #[Value.int .u8 0] 16) 5)) := fun w' => by
          have h := run_makeSlice (P := Try.prog) w' 37 5 i0 (.int .u8 0) Try.underlying37 hi hz0 .i64 .i64 16 16 (by decide) (by decide) (by rw [hz1]; decide) (by rw [hz2]; decide) (by decide)
          rw [hz1] at h
          exact h
        have HE2 : Hid ((encs rs).length ≤ 200000) := HLN.out
        have Z8 : Hid (WS w bj bf bb j L (.slice sa L sc) (encs rs) none none none none none w8) := ⟨HPE.out, fun v e => (by cases e), fun v e => (by cases e), fun v e => (by cases e), fun v e => (by cases e), fun v e => (by cases e)⟩
        clear hi hz0 hz1 hz2
        have HHD := Lib.hid (fun w' => jHead 1 L w' (by decide) (by have := HLN.out; have := HLL.out; omega))
        refine wp_regionT (.seq [1, 2, 4] [(0, 3), (1, 0), (2, 3)] (.fork3 7 [] [(0, 4)] (.fork 0 [3, 5, 6, 8] [(0, 4), (1, 4), (2, 4), (3, 4)] .done 3 [0, 5, 6, 8] [(0, 4), (1, 4), (2, 4), (3, 4)] .done) 0 [] [(0, 4)] (.fork 7 [3, 5, 6, 8] [(0, 4), (1, 4), (2, 4), (3, 4)] .done 3 [] [(0, 4)] (.fork 7 [5, 6, 8] [(0, 4), (1, 4), (2, 4)] .done 5 [] [(0, 4)] (.fork 7 [6, 8] [(0, 4), (1, 4)] .done 6 [7, 8] [(0, 4), (1, 4)] .done))) 3 [] [(0, 4)] (.fork 7 [0, 5, 6, 8] [(0, 4), (1, 4), (2, 4), (3, 4)] .done 0 [] [(0, 4)] (.fork 7 [5, 6, 8] [(0, 4), (1, 4), (2, 4)] .done 5 [] [(0, 4)] (.fork 7 [6, 8] [(0, 4), (1, 4)] .done 6 [7, 8] [(0, 4), (1, 4)] .done))))) [(0, 4), (1, 3), (2, 0), (3, 4), (4, 3), (5, 4), (6, 4), (7, 4)] [] (by kernel_rfl) (by kernel_rfl) ?_
        refine wpT_seq (by simp only [List.filterMap_cons, List.filterMap_nil, List.getElem?_cons_zero, List.getElem?_cons_succ]; exact rfl) ?_
        repeat (first | (refine reg_anyT (by rfl) (fun K hK => ?_); go_simp; refine hK _ _ ?_; clear hK K) | (refine reg_read (by rfl) (fun K hK => ?_); go_simp; refine hK _ _ ?_; clear hK K))
        refine reg_hold_v (by rfl) (by rfl) (.slice sa L sc) (fun w' hw' => q_load _ _ _ rfl rfl Try.isAgg37 (hw'.cell b0)) ?_
        repeat (first | (refine reg_anyT (by rfl) (fun K hK => ?_); go_simp; refine hK _ _ ?_; clear hK K) | (refine reg_read (by rfl) (fun K hK => ?_); go_simp; refine hK _ _ ?_; clear hK K))
        refine reg_hold_v (by rfl) (by rfl) (.slice sa L sc) (fun w' hw' => q_load _ _ _ rfl rfl Try.isAgg37 (hw'.cell b0)) ?_
        repeat (first | (refine reg_anyT (by rfl) (fun K hK => ?_); go_simp; refine hK _ _ ?_; clear hK K) | (refine reg_read (by rfl) (fun K hK => ?_); go_simp; refine hK _ _ ?_; clear hK K))
        refine reg_nilT ?_
        refine wpT_fork3 (by simp only [List.filterMap_cons, List.filterMap_nil, List.getElem?_cons_zero, List.getElem?_cons_succ]; exact rfl) (by simp only [List.filterMap_cons, List.filterMap_nil, List.getElem?_cons_zero]; exact rfl) (by simp only [List.filterMap_cons, List.filterMap_nil, List.getElem?_cons_zero, List.getElem?_cons_succ]; exact rfl) ?_ ?_ ?_
        · repeat (first | (refine reg_anyT (by rfl) (fun K hK => ?_); go_simp; refine hK _ _ ?_; clear hK K) | (refine reg_read (by rfl) (fun K hK => ?_); go_simp; refine hK _ _ ?_; clear hK K))
          refine reg_new (by rfl) (fun rn K hK => ?_); go_simp
          refine hK _ _ ⟨((Mod.refl (fun _ => False) (World.drewN w8 rn)).alloc (.cells #[.slice none 0 0] 37)).ex, ?_⟩; clear hK K
          have Zq1 := Lib.hid (Z8.out.stepA rn)
          have HNE := Lib.hid Z8.out.neA
          clear Z8
          obtain ⟨ab, hab⟩ : ∃ b, b = w8.heap.size := ⟨_, rfl⟩
          rw [← hab] at Zq1 HNE ⊢
          clear hab
          generalize (World.drewN w8 rn).alloc (.cells #[.slice none 0 0] 37) = wq1 at *
          repeat (first | (refine reg_anyT (by rfl) (fun K hK => ?_); go_simp; refine hK _ _ ?_; clear hK K) | (refine reg_read (by rfl) (fun K hK => ?_); go_simp; refine hK _ _ ?_; clear hK K))
          refine reg_nilT ?_
          refine wpT_fork (by simp only [List.filterMap_cons, List.filterMap_nil, List.getElem?_cons_zero, List.getElem?_cons_succ]; exact rfl) (by simp only [List.filterMap_cons, List.filterMap_nil, List.getElem?_cons_zero, List.getElem?_cons_succ]; exact rfl) ?_ ?_
          · repeat (first | (refine reg_anyT (by rfl) (fun K hK => ?_); go_simp; refine hK _ _ ?_; clear hK K) | (refine reg_read (by rfl) (fun K hK => ?_); go_simp; refine hK _ _ ?_; clear hK K))
            refine reg_new (by rfl) (fun rn K hK => ?_); go_simp
            refine hK _ _ ⟨((Mod.refl (fun _ => False) (World.drewN wq1 rn)).alloc (.cells (madeCells #[Value.int .u8 0] 16) 5)).ex, ?_⟩; clear hK K
            have Zq2 := Lib.hid (Zq1.out.stepM rn)
            clear Zq1
            obtain ⟨zb, hzb⟩ : ∃ b, b = wq1.heap.size := ⟨_, rfl⟩
            rw [← hzb] at Zq2 ⊢
            clear hzb
            generalize (World.drewN wq1 rn).alloc (.cells (madeCells #[Value.int .u8 0] 16) 5) = wq2 at *
            repeat (first | (refine reg_anyT (by rfl) (fun K hK => ?_); go_simp; refine hK _ _ ?_; clear hK K) | (refine reg_read (by rfl) (fun K hK => ?_); go_simp; refine hK _ _ ?_; clear hK K))
            refine reg_new (by rfl) (fun rn K hK => ?_); go_simp
            refine (HHD.out (World.drewN wq2 rn)).mono ?_; rintro e wq3 ⟨vh, rfl, f2, m2⟩
            refine hK _ _ ⟨m2.ex, ?_⟩; clear hK K
            have Zq3 := Lib.hid (Zq2.out.stepH m2.undrew f2.1)
            obtain ⟨ha, hl, hc, rfl⟩ : ∃ a n c, vh = .slice a n c := by
              rcases f2.1.sl with ⟨rfl, _⟩ | ⟨x, c, rfl, _⟩
              · exact ⟨_, _, _, rfl⟩
              · exact ⟨_, _, _, rfl⟩
            clear f2 m2 Zq2
            repeat (first | (refine reg_anyT (by rfl) (fun K hK => ?_); go_simp; refine hK _ _ ?_; clear hK K) | (refine reg_read (by rfl) (fun K hK => ?_); go_simp; refine hK _ _ ?_; clear hK K))
            refine reg_new (by rfl) (fun rn K hK => ?_); go_simp
            refine hK _ _ ⟨((Mod.refl (fun _ => False) (World.drewN wq3 rn)).alloc (.cells #[.slice (some ⟨zb, 0, none⟩) 16 16, .slice ha hl hc, .slice sa L sc] 37)).ex, ?_⟩; clear hK K
            have Zq4 := Lib.hid (Zq3.out.stepB rn)
            clear Zq3
            obtain ⟨qb, hqb⟩ : ∃ b, b = wq3.heap.size := ⟨_, rfl⟩
            rw [← hqb] at Zq4 ⊢
            clear hqb
            generalize (World.drewN wq3 rn).alloc (.cells #[.slice (some ⟨zb, 0, none⟩) 16 16, .slice ha hl hc, .slice sa L sc] 37) = wq4 at *
            repeat (first | (refine reg_anyT (by rfl) (fun K hK => ?_); go_simp; refine hK _ _ ?_; clear hK K) | (refine reg_read (by rfl) (fun K hK => ?_); go_simp; refine hK _ _ ?_; clear hK K))
            refine reg_new (by rfl) (fun rn K hK => ?_); go_simp
            refine ((Zq4.out.new ((Mod.refl _ wq4).drewN rn)).callC HE2.out).mono ?_; rintro e wq5 ⟨⟨vc9, rfl, z9⟩, m9⟩
            refine hK _ _ ⟨m9.ex, ?_⟩; clear hK K
            have Zq5 := Lib.hid z9
            obtain ⟨wa9, wc9, rfl, _, _⟩ := (z9.c _ rfl).len
            obtain ⟨wl9, hwl9⟩ : ∃ l, l = (hd 0 0 ++ (hd 1 L ++ encs rs)).length := ⟨_, rfl⟩
            rw [← hwl9] at Zq5 ⊢
            clear z9 m9 Zq4 hwl9
            repeat (first | (refine reg_anyT (by rfl) (fun K hK => ?_); go_simp; refine hK _ _ ?_; clear hK K) | (refine reg_read (by rfl) (fun K hK => ?_); go_simp; refine hK _ _ ?_; clear hK K))
            have a0 := (Zq5.out.a _ rfl).1.cell 0
            have a1 := (Zq5.out.a _ rfl).1.frozen 0
            repeat (first | (refine reg_anyT (by rfl) (fun K hK => ?_); go_simp; refine hK _ _ ?_; clear hK K) | (refine reg_read (by rfl) (fun K hK => ?_); go_simp; refine hK _ _ ?_; clear hK K))
            refine reg_eff (by rfl) (fun rn K hK => ?_); go_simp; refine hK _ _ ?_; clear hK K
            repeat (first | (refine reg_anyT (by rfl) (fun K hK => ?_); go_simp; refine hK _ _ ?_; clear hK K) | (refine reg_read (by rfl) (fun K hK => ?_); go_simp; refine hK _ _ ?_; clear hK K))
            refine reg_nilT ?_
            refine wpT_done (fun nd => ?_)
            have HF := Lib.hid (Zq5.out.fin rn nd)
            clear a0 a1 Zq5
            generalize World.drewN (World.setCell (World.drewN wq5 rn) ⟨ab, 0, none⟩ (.slice wa9 wl9 wc9)) nd = we at *
            go_wp2_with fail
            go_meet
            exact ⟨ab, _, rfl, HF.out.1, HF.out.2.1, HF.out.2.2 HNE.out⟩
          · repeat (first | (refine reg_anyT (by rfl) (fun K hK => ?_); go_simp; refine hK _ _ ?_; clear hK K) | (refine reg_read (by rfl) (fun K hK => ?_); go_simp; refine hK _ _ ?_; clear hK K))
            refine reg_new (by rfl) (fun rn K hK => ?_); go_simp
            refine (HHD.out (World.drewN wq1 rn)).mono ?_; rintro e wq2 ⟨vh, rfl, f2, m2⟩
            refine hK _ _ ⟨m2.ex, ?_⟩; clear hK K
            have Zq2 := Lib.hid (Zq1.out.stepH m2.undrew f2.1)
            obtain ⟨ha, hl, hc, rfl⟩ : ∃ a n c, vh = .slice a n c := by
              rcases f2.1.sl with ⟨rfl, _⟩ | ⟨x, c, rfl, _⟩
              · exact ⟨_, _, _, rfl⟩
              · exact ⟨_, _, _, rfl⟩
            clear f2 m2 Zq1
            repeat (first | (refine reg_anyT (by rfl) (fun K hK => ?_); go_simp; refine hK _ _ ?_; clear hK K) | (refine reg_read (by rfl) (fun K hK => ?_); go_simp; refine hK _ _ ?_; clear hK K))
            refine reg_new (by rfl) (fun rn K hK => ?_); go_simp
            refine hK _ _ ⟨((Mod.refl (fun _ => False) (World.drewN wq2 rn)).alloc (.cells (madeCells #[Value.int .u8 0] 16) 5)).ex, ?_⟩; clear hK K
            have Zq3 := Lib.hid (Zq2.out.stepM rn)
            clear Zq2
            obtain ⟨zb, hzb⟩ : ∃ b, b = wq2.heap.size := ⟨_, rfl⟩
            rw [← hzb] at Zq3 ⊢
            clear hzb
            generalize (World.drewN wq2 rn).alloc (.cells (madeCells #[Value.int .u8 0] 16) 5) = wq3 at *
            repeat (first | (refine reg_anyT (by rfl) (fun K hK => ?_); go_simp; refine hK _ _ ?_; clear hK K) | (refine reg_read (by rfl) (fun K hK => ?_); go_simp; refine hK _ _ ?_; clear hK K))
            refine reg_new (by rfl) (fun rn K hK => ?_); go_simp
            refine hK _ _ ⟨((Mod.refl (fun _ => False) (World.drewN wq3 rn)).alloc (.cells #[.slice (some ⟨zb, 0, none⟩) 16 16, .slice ha hl hc, .slice sa L sc] 37)).ex, ?_⟩; clear hK K
            have Zq4 := Lib.hid (Zq3.out.stepB rn)
            clear Zq3
            obtain ⟨qb, hqb⟩ : ∃ b, b = wq3.heap.size := ⟨_, rfl⟩
            rw [← hqb] at Zq4 ⊢
            clear hqb
            generalize (World.drewN wq3 rn).alloc (.cells #[.slice (some ⟨zb, 0, none⟩) 16 16, .slice ha hl hc, .slice sa L sc] 37) = wq4 at *
            repeat (first | (refine reg_anyT (by rfl) (fun K hK => ?_); go_simp; refine hK _ _ ?_; clear hK K) | (refine reg_read (by rfl) (fun K hK => ?_); go_simp; refine hK _ _ ?_; clear hK K))
            refine reg_new (by rfl) (fun rn K hK => ?_); go_simp
            refine ((Zq4.out.new ((Mod.refl _ wq4).drewN rn)).callC HE2.out).mono ?_; rintro e wq5 ⟨⟨vc9, rfl, z9⟩, m9⟩
            refine hK _ _ ⟨m9.ex, ?_⟩; clear hK K
            have Zq5 := Lib.hid z9
            obtain ⟨wa9, wc9, rfl, _, _⟩ := (z9.c _ rfl).len
            obtain ⟨wl9, hwl9⟩ : ∃ l, l = (hd 0 0 ++ (hd 1 L ++ encs rs)).length := ⟨_, rfl⟩
            rw [← hwl9] at Zq5 ⊢
            clear z9 m9 Zq4 hwl9
            repeat (first | (refine reg_anyT (by rfl) (fun K hK => ?_); go_simp; refine hK _ _ ?_; clear hK K) | (refine reg_read (by rfl) (fun K hK => ?_); go_simp; refine hK _ _ ?_; clear hK K))
            have a0 := (Zq5.out.a _ rfl).1.cell 0
            have a1 := (Zq5.out.a _ rfl).1.frozen 0
            repeat (first | (refine reg_anyT (by rfl) (fun K hK => ?_); go_simp; refine hK _ _ ?_; clear hK K) | (refine reg_read (by rfl) (fun K hK => ?_); go_simp; refine hK _ _ ?_; clear hK K))
            refine reg_eff (by rfl) (fun rn K hK => ?_); go_simp; refine hK _ _ ?_; clear hK K
            repeat (first | (refine reg_anyT (by rfl) (fun K hK => ?_); go_simp; refine hK _ _ ?_; clear hK K) | (refine reg_read (by rfl) (fun K hK => ?_); go_simp; refine hK _ _ ?_; clear hK K))
            refine reg_nilT ?_
            refine wpT_done (fun nd => ?_)
            have HF := Lib.hid (Zq5.out.fin rn nd)
            clear a0 a1 Zq5
            generalize World.drewN (World.setCell (World.drewN wq5 rn) ⟨ab, 0, none⟩ (.slice wa9 wl9 wc9)) nd = we at *
            go_wp2_with fail
            go_meet
            exact ⟨ab, _, rfl, HF.out.1, HF.out.2.1, HF.out.2.2 HNE.out⟩
        · repeat (first | (refine reg_anyT (by rfl) (fun K hK => ?_); go_simp; refine hK _ _ ?_; clear hK K) | (refine reg_read (by rfl) (fun K hK => ?_); go_simp; refine hK _ _ ?_; clear hK K))
          refine reg_new (by rfl) (fun rn K hK => ?_); go_simp
          refine hK _ _ ⟨((Mod.refl (fun _ => False) (World.drewN w8 rn)).alloc (.cells (madeCells #[Value.int .u8 0] 16) 5)).ex, ?_⟩; clear hK K
          have Zq1 := Lib.hid (Z8.out.stepM rn)
          clear Z8
          obtain ⟨zb, hzb⟩ : ∃ b, b = w8.heap.size := ⟨_, rfl⟩
          rw [← hzb] at Zq1 ⊢
          clear hzb
          generalize (World.drewN w8 rn).alloc (.cells (madeCells #[Value.int .u8 0] 16) 5) = wq1 at *
          repeat (first | (refine reg_anyT (by rfl) (fun K hK => ?_); go_simp; refine hK _ _ ?_; clear hK K) | (refine reg_read (by rfl) (fun K hK => ?_); go_simp; refine hK _ _ ?_; clear hK K))
          refine reg_nilT ?_
          refine wpT_fork (by simp only [List.filterMap_cons, List.filterMap_nil, List.getElem?_cons_zero, List.getElem?_cons_succ]; exact rfl) (by simp only [List.filterMap_cons, List.filterMap_nil, List.getElem?_cons_zero, List.getElem?_cons_succ]; exact rfl) ?_ ?_
          · repeat (first | (refine reg_anyT (by rfl) (fun K hK => ?_); go_simp; refine hK _ _ ?_; clear hK K) | (refine reg_read (by rfl) (fun K hK => ?_); go_simp; refine hK _ _ ?_; clear hK K))
            refine reg_new (by rfl) (fun rn K hK => ?_); go_simp
            refine hK _ _ ⟨((Mod.refl (fun _ => False) (World.drewN wq1 rn)).alloc (.cells #[.slice none 0 0] 37)).ex, ?_⟩; clear hK K
            have Zq2 := Lib.hid (Zq1.out.stepA rn)
            have HNE := Lib.hid Zq1.out.neA
            clear Zq1
            obtain ⟨ab, hab⟩ : ∃ b, b = wq1.heap.size := ⟨_, rfl⟩
            rw [← hab] at Zq2 HNE ⊢
            clear hab
            generalize (World.drewN wq1 rn).alloc (.cells #[.slice none 0 0] 37) = wq2 at *
            repeat (first | (refine reg_anyT (by rfl) (fun K hK => ?_); go_simp; refine hK _ _ ?_; clear hK K) | (refine reg_read (by rfl) (fun K hK => ?_); go_simp; refine hK _ _ ?_; clear hK K))
            refine reg_new (by rfl) (fun rn K hK => ?_); go_simp
            refine (HHD.out (World.drewN wq2 rn)).mono ?_; rintro e wq3 ⟨vh, rfl, f2, m2⟩
            refine hK _ _ ⟨m2.ex, ?_⟩; clear hK K
            have Zq3 := Lib.hid (Zq2.out.stepH m2.undrew f2.1)
            obtain ⟨ha, hl, hc, rfl⟩ : ∃ a n c, vh = .slice a n c := by
              rcases f2.1.sl with ⟨rfl, _⟩ | ⟨x, c, rfl, _⟩
              · exact ⟨_, _, _, rfl⟩
              · exact ⟨_, _, _, rfl⟩
            clear f2 m2 Zq2
            repeat (first | (refine reg_anyT (by rfl) (fun K hK => ?_); go_simp; refine hK _ _ ?_; clear hK K) | (refine reg_read (by rfl) (fun K hK => ?_); go_simp; refine hK _ _ ?_; clear hK K))
            refine reg_new (by rfl) (fun rn K hK => ?_); go_simp
            refine hK _ _ ⟨((Mod.refl (fun _ => False) (World.drewN wq3 rn)).alloc (.cells #[.slice (some ⟨zb, 0, none⟩) 16 16, .slice ha hl hc, .slice sa L sc] 37)).ex, ?_⟩; clear hK K
            have Zq4 := Lib.hid (Zq3.out.stepB rn)
            clear Zq3
            obtain ⟨qb, hqb⟩ : ∃ b, b = wq3.heap.size := ⟨_, rfl⟩
            rw [← hqb] at Zq4 ⊢
            clear hqb
            generalize (World.drewN wq3 rn).alloc (.cells #[.slice (some ⟨zb, 0, none⟩) 16 16, .slice ha hl hc, .slice sa L sc] 37) = wq4 at *
            repeat (first | (refine reg_anyT (by rfl) (fun K hK => ?_); go_simp; refine hK _ _ ?_; clear hK K) | (refine reg_read (by rfl) (fun K hK => ?_); go_simp; refine hK _ _ ?_; clear hK K))
            refine reg_new (by rfl) (fun rn K hK => ?_); go_simp
            refine ((Zq4.out.new ((Mod.refl _ wq4).drewN rn)).callC HE2.out).mono ?_; rintro e wq5 ⟨⟨vc9, rfl, z9⟩, m9⟩
            refine hK _ _ ⟨m9.ex, ?_⟩; clear hK K
            have Zq5 := Lib.hid z9
            obtain ⟨wa9, wc9, rfl, _, _⟩ := (z9.c _ rfl).len
            obtain ⟨wl9, hwl9⟩ : ∃ l, l = (hd 0 0 ++ (hd 1 L ++ encs rs)).length := ⟨_, rfl⟩
            rw [← hwl9] at Zq5 ⊢
            clear z9 m9 Zq4 hwl9
            repeat (first | (refine reg_anyT (by rfl) (fun K hK => ?_); go_simp; refine hK _ _ ?_; clear hK K) | (refine reg_read (by rfl) (fun K hK => ?_); go_simp; refine hK _ _ ?_; clear hK K))
            have a0 := (Zq5.out.a _ rfl).1.cell 0
            have a1 := (Zq5.out.a _ rfl).1.frozen 0
            repeat (first | (refine reg_anyT (by rfl) (fun K hK => ?_); go_simp; refine hK _ _ ?_; clear hK K) | (refine reg_read (by rfl) (fun K hK => ?_); go_simp; refine hK _ _ ?_; clear hK K))
            refine reg_eff (by rfl) (fun rn K hK => ?_); go_simp; refine hK _ _ ?_; clear hK K
            repeat (first | (refine reg_anyT (by rfl) (fun K hK => ?_); go_simp; refine hK _ _ ?_; clear hK K) | (refine reg_read (by rfl) (fun K hK => ?_); go_simp; refine hK _ _ ?_; clear hK K))
            refine reg_nilT ?_
            refine wpT_done (fun nd => ?_)
            have HF := Lib.hid (Zq5.out.fin rn nd)
            clear a0 a1 Zq5
            generalize World.drewN (World.setCell (World.drewN wq5 rn) ⟨ab, 0, none⟩ (.slice wa9 wl9 wc9)) nd = we at *
            go_wp2_with fail
            go_meet
            exact ⟨ab, _, rfl, HF.out.1, HF.out.2.1, HF.out.2.2 HNE.out⟩
          · repeat (first | (refine reg_anyT (by rfl) (fun K hK => ?_); go_simp; refine hK _ _ ?_; clear hK K) | (refine reg_read (by rfl) (fun K hK => ?_); go_simp; refine hK _ _ ?_; clear hK K))
            refine reg_new (by rfl) (fun rn K hK => ?_); go_simp
            refine (HHD.out (World.drewN wq1 rn)).mono ?_; rintro e wq2 ⟨vh, rfl, f2, m2⟩
            refine hK _ _ ⟨m2.ex, ?_⟩; clear hK K
            have Zq2 := Lib.hid (Zq1.out.stepH m2.undrew f2.1)
            obtain ⟨ha, hl, hc, rfl⟩ : ∃ a n c, vh = .slice a n c := by
              rcases f2.1.sl with ⟨rfl, _⟩ | ⟨x, c, rfl, _⟩
              · exact ⟨_, _, _, rfl⟩
              · exact ⟨_, _, _, rfl⟩
            clear f2 m2 Zq1
            repeat (first | (refine reg_anyT (by rfl) (fun K hK => ?_); go_simp; refine hK _ _ ?_; clear hK K) | (refine reg_read (by rfl) (fun K hK => ?_); go_simp; refine hK _ _ ?_; clear hK K))
            refine reg_nilT ?_
            refine wpT_fork (by simp only [List.filterMap_cons, List.filterMap_nil, List.getElem?_cons_zero, List.getElem?_cons_succ]; exact rfl) (by simp only [List.filterMap_cons, List.filterMap_nil, List.getElem?_cons_zero, List.getElem?_cons_succ]; exact rfl) ?_ ?_
            · repeat (first | (refine reg_anyT (by rfl) (fun K hK => ?_); go_simp; refine hK _ _ ?_; clear hK K) | (refine reg_read (by rfl) (fun K hK => ?_); go_simp; refine hK _ _ ?_; clear hK K))
              refine reg_new (by rfl) (fun rn K hK => ?_); go_simp
              refine hK _ _ ⟨((Mod.refl (fun _ => False) (World.drewN wq2 rn)).alloc (.cells #[.slice none 0 0] 37)).ex, ?_⟩; clear hK K
              have Zq3 := Lib.hid (Zq2.out.stepA rn)
              have HNE := Lib.hid Zq2.out.neA
              clear Zq2
              obtain ⟨ab, hab⟩ : ∃ b, b = wq2.heap.size := ⟨_, rfl⟩
              rw [← hab] at Zq3 HNE ⊢
              clear hab
              generalize (World.drewN wq2 rn).alloc (.cells #[.slice none 0 0] 37) = wq3 at *
              repeat (first | (refine reg_anyT (by rfl) (fun K hK => ?_); go_simp; refine hK _ _ ?_; clear hK K) | (refine reg_read (by rfl) (fun K hK => ?_); go_simp; refine hK _ _ ?_; clear hK K))
              refine reg_new (by rfl) (fun rn K hK => ?_); go_simp
              refine hK _ _ ⟨((Mod.refl (fun _ => False) (World.drewN wq3 rn)).alloc (.cells #[.slice (some ⟨zb, 0, none⟩) 16 16, .slice ha hl hc, .slice sa L sc] 37)).ex, ?_⟩; clear hK K
              have Zq4 := Lib.hid (Zq3.out.stepB rn)
              clear Zq3
              obtain ⟨qb, hqb⟩ : ∃ b, b = wq3.heap.size := ⟨_, rfl⟩
              rw [← hqb] at Zq4 ⊢
              clear hqb
              generalize (World.drewN wq3 rn).alloc (.cells #[.slice (some ⟨zb, 0, none⟩) 16 16, .slice ha hl hc, .slice sa L sc] 37) = wq4 at *
              repeat (first | (refine reg_anyT (by rfl) (fun K hK => ?_); go_simp; refine hK _ _ ?_; clear hK K) | (refine reg_read (by rfl) (fun K hK => ?_); go_simp; refine hK _ _ ?_; clear hK K))
              refine reg_new (by rfl) (fun rn K hK => ?_); go_simp
              refine ((Zq4.out.new ((Mod.refl _ wq4).drewN rn)).callC HE2.out).mono ?_; rintro e wq5 ⟨⟨vc9, rfl, z9⟩, m9⟩
              refine hK _ _ ⟨m9.ex, ?_⟩; clear hK K
              have Zq5 := Lib.hid z9
              obtain ⟨wa9, wc9, rfl, _, _⟩ := (z9.c _ rfl).len
              obtain ⟨wl9, hwl9⟩ : ∃ l, l = (hd 0 0 ++ (hd 1 L ++ encs rs)).length := ⟨_, rfl⟩
              rw [← hwl9] at Zq5 ⊢
              clear z9 m9 Zq4 hwl9
              repeat (first | (refine reg_anyT (by rfl) (fun K hK => ?_); go_simp; refine hK _ _ ?_; clear hK K) | (refine reg_read (by rfl) (fun K hK => ?_); go_simp; refine hK _ _ ?_; clear hK K))
              have a0 := (Zq5.out.a _ rfl).1.cell 0
              have a1 := (Zq5.out.a _ rfl).1.frozen 0
              repeat (first | (refine reg_anyT (by rfl) (fun K hK => ?_); go_simp; refine hK _ _ ?_; clear hK K) | (refine reg_read (by rfl) (fun K hK => ?_); go_simp; refine hK _ _ ?_; clear hK K))
              refine reg_eff (by rfl) (fun rn K hK => ?_); go_simp; refine hK _ _ ?_; clear hK K
              repeat (first | (refine reg_anyT (by rfl) (fun K hK => ?_); go_simp; refine hK _ _ ?_; clear hK K) | (refine reg_read (by rfl) (fun K hK => ?_); go_simp; refine hK _ _ ?_; clear hK K))
              refine reg_nilT ?_
              refine wpT_done (fun nd => ?_)
              have HF := Lib.hid (Zq5.out.fin rn nd)
              clear a0 a1 Zq5
              generalize World.drewN (World.setCell (World.drewN wq5 rn) ⟨ab, 0, none⟩ (.slice wa9 wl9 wc9)) nd = we at *
              go_wp2_with fail
              go_meet
              exact ⟨ab, _, rfl, HF.out.1, HF.out.2.1, HF.out.2.2 HNE.out⟩
            · repeat (first | (refine reg_anyT (by rfl) (fun K hK => ?_); go_simp; refine hK _ _ ?_; clear hK K) | (refine reg_read (by rfl) (fun K hK => ?_); go_simp; refine hK _ _ ?_; clear hK K))
              refine reg_new (by rfl) (fun rn K hK => ?_); go_simp
              refine hK _ _ ⟨((Mod.refl (fun _ => False) (World.drewN wq2 rn)).alloc (.cells #[.slice (some ⟨zb, 0, none⟩) 16 16, .slice ha hl hc, .slice sa L sc] 37)).ex, ?_⟩; clear hK K
              have Zq3 := Lib.hid (Zq2.out.stepB rn)
              clear Zq2
              obtain ⟨qb, hqb⟩ : ∃ b, b = wq2.heap.size := ⟨_, rfl⟩
              rw [← hqb] at Zq3 ⊢
              clear hqb
              generalize (World.drewN wq2 rn).alloc (.cells #[.slice (some ⟨zb, 0, none⟩) 16 16, .slice ha hl hc, .slice sa L sc] 37) = wq3 at *
              repeat (first | (refine reg_anyT (by rfl) (fun K hK => ?_); go_simp; refine hK _ _ ?_; clear hK K) | (refine reg_read (by rfl) (fun K hK => ?_); go_simp; refine hK _ _ ?_; clear hK K))
              refine reg_nilT ?_
              refine wpT_fork (by simp only [List.filterMap_cons, List.filterMap_nil, List.getElem?_cons_zero, List.getElem?_cons_succ]; exact rfl) (by simp only [List.filterMap_cons, List.filterMap_nil, List.getElem?_cons_zero, List.getElem?_cons_succ]; exact rfl) ?_ ?_
              · repeat (first | (refine reg_anyT (by rfl) (fun K hK => ?_); go_simp; refine hK _ _ ?_; clear hK K) | (refine reg_read (by rfl) (fun K hK => ?_); go_simp; refine hK _ _ ?_; clear hK K))
                refine reg_new (by rfl) (fun rn K hK => ?_); go_simp
                refine hK _ _ ⟨((Mod.refl (fun _ => False) (World.drewN wq3 rn)).alloc (.cells #[.slice none 0 0] 37)).ex, ?_⟩; clear hK K
                have Zq4 := Lib.hid (Zq3.out.stepA rn)
                have HNE := Lib.hid Zq3.out.neA
                clear Zq3
                obtain ⟨ab, hab⟩ : ∃ b, b = wq3.heap.size := ⟨_, rfl⟩
                rw [← hab] at Zq4 HNE ⊢
                clear hab
                generalize (World.drewN wq3 rn).alloc (.cells #[.slice none 0 0] 37) = wq4 at *
                repeat (first | (refine reg_anyT (by rfl) (fun K hK => ?_); go_simp; refine hK _ _ ?_; clear hK K) | (refine reg_read (by rfl) (fun K hK => ?_); go_simp; refine hK _ _ ?_; clear hK K))
                refine reg_new (by rfl) (fun rn K hK => ?_); go_simp
                refine ((Zq4.out.new ((Mod.refl _ wq4).drewN rn)).callC HE2.out).mono ?_; rintro e wq5 ⟨⟨vc9, rfl, z9⟩, m9⟩
                refine hK _ _ ⟨m9.ex, ?_⟩; clear hK K
                have Zq5 := Lib.hid z9
                obtain ⟨wa9, wc9, rfl, _, _⟩ := (z9.c _ rfl).len
                obtain ⟨wl9, hwl9⟩ : ∃ l, l = (hd 0 0 ++ (hd 1 L ++ encs rs)).length := ⟨_, rfl⟩
                rw [← hwl9] at Zq5 ⊢
                clear z9 m9 Zq4 hwl9
                repeat (first | (refine reg_anyT (by rfl) (fun K hK => ?_); go_simp; refine hK _ _ ?_; clear hK K) | (refine reg_read (by rfl) (fun K hK => ?_); go_simp; refine hK _ _ ?_; clear hK K))
                have a0 := (Zq5.out.a _ rfl).1.cell 0
                have a1 := (Zq5.out.a _ rfl).1.frozen 0
                repeat (first | (refine reg_anyT (by rfl) (fun K hK => ?_); go_simp; refine hK _ _ ?_; clear hK K) | (refine reg_read (by rfl) (fun K hK => ?_); go_simp; refine hK _ _ ?_; clear hK K))
                refine reg_eff (by rfl) (fun rn K hK => ?_); go_simp; refine hK _ _ ?_; clear hK K
                repeat (first | (refine reg_anyT (by rfl) (fun K hK => ?_); go_simp; refine hK _ _ ?_; clear hK K) | (refine reg_read (by rfl) (fun K hK => ?_); go_simp; refine hK _ _ ?_; clear hK K))
                refine reg_nilT ?_
                refine wpT_done (fun nd => ?_)
                have HF := Lib.hid (Zq5.out.fin rn nd)
                clear a0 a1 Zq5
                generalize World.drewN (World.setCell (World.drewN wq5 rn) ⟨ab, 0, none⟩ (.slice wa9 wl9 wc9)) nd = we at *
                go_wp2_with fail
                go_meet
                exact ⟨ab, _, rfl, HF.out.1, HF.out.2.1, HF.out.2.2 HNE.out⟩
              · repeat (first | (refine reg_anyT (by rfl) (fun K hK => ?_); go_simp; refine hK _ _ ?_; clear hK K) | (refine reg_read (by rfl) (fun K hK => ?_); go_simp; refine hK _ _ ?_; clear hK K))
                refine reg_new (by rfl) (fun rn K hK => ?_); go_simp
                refine ((Zq3.out.new ((Mod.refl _ wq3).drewN rn)).callC HE2.out).mono ?_; rintro e wq4 ⟨⟨vc9, rfl, z9⟩, m9⟩
                refine hK _ _ ⟨m9.ex, ?_⟩; clear hK K
                have Zq4 := Lib.hid z9
                obtain ⟨wa9, wc9, rfl, _, _⟩ := (z9.c _ rfl).len
                obtain ⟨wl9, hwl9⟩ : ∃ l, l = (hd 0 0 ++ (hd 1 L ++ encs rs)).length := ⟨_, rfl⟩
                rw [← hwl9] at Zq4 ⊢
                clear z9 m9 Zq3 hwl9
                repeat (first | (refine reg_anyT (by rfl) (fun K hK => ?_); go_simp; refine hK _ _ ?_; clear hK K) | (refine reg_read (by rfl) (fun K hK => ?_); go_simp; refine hK _ _ ?_; clear hK K))
                refine reg_new (by rfl) (fun rn K hK => ?_); go_simp
                refine hK _ _ ⟨((Mod.refl (fun _ => False) (World.drewN wq4 rn)).alloc (.cells #[.slice none 0 0] 37)).ex, ?_⟩; clear hK K
                have Zq5 := Lib.hid (Zq4.out.stepA rn)
                have HNE := Lib.hid Zq4.out.neA
                clear Zq4
                obtain ⟨ab, hab⟩ : ∃ b, b = wq4.heap.size := ⟨_, rfl⟩
                rw [← hab] at Zq5 HNE ⊢
                clear hab
                generalize (World.drewN wq4 rn).alloc (.cells #[.slice none 0 0] 37) = wq5 at *
                repeat (first | (refine reg_anyT (by rfl) (fun K hK => ?_); go_simp; refine hK _ _ ?_; clear hK K) | (refine reg_read (by rfl) (fun K hK => ?_); go_simp; refine hK _ _ ?_; clear hK K))
                have a0 := (Zq5.out.a _ rfl).1.cell 0
                have a1 := (Zq5.out.a _ rfl).1.frozen 0
                repeat (first | (refine reg_anyT (by rfl) (fun K hK => ?_); go_simp; refine hK _ _ ?_; clear hK K) | (refine reg_read (by rfl) (fun K hK => ?_); go_simp; refine hK _ _ ?_; clear hK K))
                refine reg_eff (by rfl) (fun rn K hK => ?_); go_simp; refine hK _ _ ?_; clear hK K
                repeat (first | (refine reg_anyT (by rfl) (fun K hK => ?_); go_simp; refine hK _ _ ?_; clear hK K) | (refine reg_read (by rfl) (fun K hK => ?_); go_simp; refine hK _ _ ?_; clear hK K))
                refine reg_nilT ?_
                refine wpT_done (fun nd => ?_)
                have HF := Lib.hid (Zq5.out.fin rn nd)
                clear a0 a1 Zq5
                generalize World.drewN (World.setCell (World.drewN wq5 rn) ⟨ab, 0, none⟩ (.slice wa9 wl9 wc9)) nd = we at *
                go_wp2_with fail
                go_meet
                exact ⟨ab, _, rfl, HF.out.1, HF.out.2.1, HF.out.2.2 HNE.out⟩
        · repeat (first | (refine reg_anyT (by rfl) (fun K hK => ?_); go_simp; refine hK _ _ ?_; clear hK K) | (refine reg_read (by rfl) (fun K hK => ?_); go_simp; refine hK _ _ ?_; clear hK K))
          refine reg_new (by rfl) (fun rn K hK => ?_); go_simp
          refine (HHD.out (World.drewN w8 rn)).mono ?_; rintro e wq1 ⟨vh, rfl, f2, m2⟩
          refine hK _ _ ⟨m2.ex, ?_⟩; clear hK K
          have Zq1 := Lib.hid (Z8.out.stepH m2.undrew f2.1)
          obtain ⟨ha, hl, hc, rfl⟩ : ∃ a n c, vh = .slice a n c := by
            rcases f2.1.sl with ⟨rfl, _⟩ | ⟨x, c, rfl, _⟩
            · exact ⟨_, _, _, rfl⟩
            · exact ⟨_, _, _, rfl⟩
          clear f2 m2 Z8
          repeat (first | (refine reg_anyT (by rfl) (fun K hK => ?_); go_simp; refine hK _ _ ?_; clear hK K) | (refine reg_read (by rfl) (fun K hK => ?_); go_simp; refine hK _ _ ?_; clear hK K))
          refine reg_nilT ?_
          refine wpT_fork (by simp only [List.filterMap_cons, List.filterMap_nil, List.getElem?_cons_zero, List.getElem?_cons_succ]; exact rfl) (by simp only [List.filterMap_cons, List.filterMap_nil, List.getElem?_cons_zero]; exact rfl) ?_ ?_
          · repeat (first | (refine reg_anyT (by rfl) (fun K hK => ?_); go_simp; refine hK _ _ ?_; clear hK K) | (refine reg_read (by rfl) (fun K hK => ?_); go_simp; refine hK _ _ ?_; clear hK K))
            refine reg_new (by rfl) (fun rn K hK => ?_); go_simp
            refine hK _ _ ⟨((Mod.refl (fun _ => False) (World.drewN wq1 rn)).alloc (.cells #[.slice none 0 0] 37)).ex, ?_⟩; clear hK K
            have Zq2 := Lib.hid (Zq1.out.stepA rn)
            have HNE := Lib.hid Zq1.out.neA
            clear Zq1
            obtain ⟨ab, hab⟩ : ∃ b, b = wq1.heap.size := ⟨_, rfl⟩
            rw [← hab] at Zq2 HNE ⊢
            clear hab
            generalize (World.drewN wq1 rn).alloc (.cells #[.slice none 0 0] 37) = wq2 at *
            repeat (first | (refine reg_anyT (by rfl) (fun K hK => ?_); go_simp; refine hK _ _ ?_; clear hK K) | (refine reg_read (by rfl) (fun K hK => ?_); go_simp; refine hK _ _ ?_; clear hK K))
            refine reg_new (by rfl) (fun rn K hK => ?_); go_simp
            refine hK _ _ ⟨((Mod.refl (fun _ => False) (World.drewN wq2 rn)).alloc (.cells (madeCells #[Value.int .u8 0] 16) 5)).ex, ?_⟩; clear hK K
            have Zq3 := Lib.hid (Zq2.out.stepM rn)
            clear Zq2
            obtain ⟨zb, hzb⟩ : ∃ b, b = wq2.heap.size := ⟨_, rfl⟩
            rw [← hzb] at Zq3 ⊢
            clear hzb
            generalize (World.drewN wq2 rn).alloc (.cells (madeCells #[Value.int .u8 0] 16) 5) = wq3 at *
            repeat (first | (refine reg_anyT (by rfl) (fun K hK => ?_); go_simp; refine hK _ _ ?_; clear hK K) | (refine reg_read (by rfl) (fun K hK => ?_); go_simp; refine hK _ _ ?_; clear hK K))
            refine reg_new (by rfl) (fun rn K hK => ?_); go_simp
            refine hK _ _ ⟨((Mod.refl (fun _ => False) (World.drewN wq3 rn)).alloc (.cells #[.slice (some ⟨zb, 0, none⟩) 16 16, .slice ha hl hc, .slice sa L sc] 37)).ex, ?_⟩; clear hK K
            have Zq4 := Lib.hid (Zq3.out.stepB rn)
            clear Zq3
            obtain ⟨qb, hqb⟩ : ∃ b, b = wq3.heap.size := ⟨_, rfl⟩
            rw [← hqb] at Zq4 ⊢
            clear hqb
            generalize (World.drewN wq3 rn).alloc (.cells #[.slice (some ⟨zb, 0, none⟩) 16 16, .slice ha hl hc, .slice sa L sc] 37) = wq4 at *
            repeat (first | (refine reg_anyT (by rfl) (fun K hK => ?_); go_simp; refine hK _ _ ?_; clear hK K) | (refine reg_read (by rfl) (fun K hK => ?_); go_simp; refine hK _ _ ?_; clear hK K))
            refine reg_new (by rfl) (fun rn K hK => ?_); go_simp
            refine ((Zq4.out.new ((Mod.refl _ wq4).drewN rn)).callC HE2.out).mono ?_; rintro e wq5 ⟨⟨vc9, rfl, z9⟩, m9⟩
            refine hK _ _ ⟨m9.ex, ?_⟩; clear hK K
            have Zq5 := Lib.hid z9
            obtain ⟨wa9, wc9, rfl, _, _⟩ := (z9.c _ rfl).len
            obtain ⟨wl9, hwl9⟩ : ∃ l, l = (hd 0 0 ++ (hd 1 L ++ encs rs)).length := ⟨_, rfl⟩
            rw [← hwl9] at Zq5 ⊢
            clear z9 m9 Zq4 hwl9
            repeat (first | (refine reg_anyT (by rfl) (fun K hK => ?_); go_simp; refine hK _ _ ?_; clear hK K) | (refine reg_read (by rfl) (fun K hK => ?_); go_simp; refine hK _ _ ?_; clear hK K))
            have a0 := (Zq5.out.a _ rfl).1.cell 0
            have a1 := (Zq5.out.a _ rfl).1.frozen 0
            repeat (first | (refine reg_anyT (by rfl) (fun K hK => ?_); go_simp; refine hK _ _ ?_; clear hK K) | (refine reg_read (by rfl) (fun K hK => ?_); go_simp; refine hK _ _ ?_; clear hK K))
            refine reg_eff (by rfl) (fun rn K hK => ?_); go_simp; refine hK _ _ ?_; clear hK K
            repeat (first | (refine reg_anyT (by rfl) (fun K hK => ?_); go_simp; refine hK _ _ ?_; clear hK K) | (refine reg_read (by rfl) (fun K hK => ?_); go_simp; refine hK _ _ ?_; clear hK K))
            refine reg_nilT ?_
            refine wpT_done (fun nd => ?_)
            have HF := Lib.hid (Zq5.out.fin rn nd)
            clear a0 a1 Zq5
            generalize World.drewN (World.setCell (World.drewN wq5 rn) ⟨ab, 0, none⟩ (.slice wa9 wl9 wc9)) nd = we at *
            go_wp2_with fail
            go_meet
            exact ⟨ab, _, rfl, HF.out.1, HF.out.2.1, HF.out.2.2 HNE.out⟩
          · repeat (first | (refine reg_anyT (by rfl) (fun K hK => ?_); go_simp; refine hK _ _ ?_; clear hK K) | (refine reg_read (by rfl) (fun K hK => ?_); go_simp; refine hK _ _ ?_; clear hK K))
            refine reg_new (by rfl) (fun rn K hK => ?_); go_simp
            refine hK _ _ ⟨((Mod.refl (fun _ => False) (World.drewN wq1 rn)).alloc (.cells (madeCells #[Value.int .u8 0] 16) 5)).ex, ?_⟩; clear hK K
            have Zq2 := Lib.hid (Zq1.out.stepM rn)
            clear Zq1
            obtain ⟨zb, hzb⟩ : ∃ b, b = wq1.heap.size := ⟨_, rfl⟩
            rw [← hzb] at Zq2 ⊢
            clear hzb
            generalize (World.drewN wq1 rn).alloc (.cells (madeCells #[Value.int .u8 0] 16) 5) = wq2 at *
            repeat (first | (refine reg_anyT (by rfl) (fun K hK => ?_); go_simp; refine hK _ _ ?_; clear hK K) | (refine reg_read (by rfl) (fun K hK => ?_); go_simp; refine hK _ _ ?_; clear hK K))
            refine reg_nilT ?_
            refine wpT_fork (by simp only [List.filterMap_cons, List.filterMap_nil, List.getElem?_cons_zero, List.getElem?_cons_succ]; exact rfl) (by simp only [List.filterMap_cons, List.filterMap_nil, List.getElem?_cons_zero, List.getElem?_cons_succ]; exact rfl) ?_ ?_
            · repeat (first | (refine reg_anyT (by rfl) (fun K hK => ?_); go_simp; refine hK _ _ ?_; clear hK K) | (refine reg_read (by rfl) (fun K hK => ?_); go_simp; refine hK _ _ ?_; clear hK K))
              refine reg_new (by rfl) (fun rn K hK => ?_); go_simp
              refine hK _ _ ⟨((Mod.refl (fun _ => False) (World.drewN wq2 rn)).alloc (.cells #[.slice none 0 0] 37)).ex, ?_⟩; clear hK K
              have Zq3 := Lib.hid (Zq2.out.stepA rn)
              have HNE := Lib.hid Zq2.out.neA
              clear Zq2
              obtain ⟨ab, hab⟩ : ∃ b, b = wq2.heap.size := ⟨_, rfl⟩
              rw [← hab] at Zq3 HNE ⊢
              clear hab
              generalize (World.drewN wq2 rn).alloc (.cells #[.slice none 0 0] 37) = wq3 at *
              repeat (first | (refine reg_anyT (by rfl) (fun K hK => ?_); go_simp; refine hK _ _ ?_; clear hK K) | (refine reg_read (by rfl) (fun K hK => ?_); go_simp; refine hK _ _ ?_; clear hK K))
              refine reg_new (by rfl) (fun rn K hK => ?_); go_simp
              refine hK _ _ ⟨((Mod.refl (fun _ => False) (World.drewN wq3 rn)).alloc (.cells #[.slice (some ⟨zb, 0, none⟩) 16 16, .slice ha hl hc, .slice sa L sc] 37)).ex, ?_⟩; clear hK K
              have Zq4 := Lib.hid (Zq3.out.stepB rn)
              clear Zq3
              obtain ⟨qb, hqb⟩ : ∃ b, b = wq3.heap.size := ⟨_, rfl⟩
              rw [← hqb] at Zq4 ⊢
              clear hqb
              generalize (World.drewN wq3 rn).alloc (.cells #[.slice (some ⟨zb, 0, none⟩) 16 16, .slice ha hl hc, .slice sa L sc] 37) = wq4 at *
              repeat (first | (refine reg_anyT (by rfl) (fun K hK => ?_); go_simp; refine hK _ _ ?_; clear hK K) | (refine reg_read (by rfl) (fun K hK => ?_); go_simp; refine hK _ _ ?_; clear hK K))
              refine reg_new (by rfl) (fun rn K hK => ?_); go_simp
              refine ((Zq4.out.new ((Mod.refl _ wq4).drewN rn)).callC HE2.out).mono ?_; rintro e wq5 ⟨⟨vc9, rfl, z9⟩, m9⟩
              refine hK _ _ ⟨m9.ex, ?_⟩; clear hK K
              have Zq5 := Lib.hid z9
              obtain ⟨wa9, wc9, rfl, _, _⟩ := (z9.c _ rfl).len
              obtain ⟨wl9, hwl9⟩ : ∃ l, l = (hd 0 0 ++ (hd 1 L ++ encs rs)).length := ⟨_, rfl⟩
              rw [← hwl9] at Zq5 ⊢
              clear z9 m9 Zq4 hwl9
              repeat (first | (refine reg_anyT (by rfl) (fun K hK => ?_); go_simp; refine hK _ _ ?_; clear hK K) | (refine reg_read (by rfl) (fun K hK => ?_); go_simp; refine hK _ _ ?_; clear hK K))
              have a0 := (Zq5.out.a _ rfl).1.cell 0
              have a1 := (Zq5.out.a _ rfl).1.frozen 0
              repeat (first | (refine reg_anyT (by rfl) (fun K hK => ?_); go_simp; refine hK _ _ ?_; clear hK K) | (refine reg_read (by rfl) (fun K hK => ?_); go_simp; refine hK _ _ ?_; clear hK K))
              refine reg_eff (by rfl) (fun rn K hK => ?_); go_simp; refine hK _ _ ?_; clear hK K
              repeat (first | (refine reg_anyT (by rfl) (fun K hK => ?_); go_simp; refine hK _ _ ?_; clear hK K) | (refine reg_read (by rfl) (fun K hK => ?_); go_simp; refine hK _ _ ?_; clear hK K))
              refine reg_nilT ?_
              refine wpT_done (fun nd => ?_)
              have HF := Lib.hid (Zq5.out.fin rn nd)
              clear a0 a1 Zq5
              generalize World.drewN (World.setCell (World.drewN wq5 rn) ⟨ab, 0, none⟩ (.slice wa9 wl9 wc9)) nd = we at *
              go_wp2_with fail
              go_meet
              exact ⟨ab, _, rfl, HF.out.1, HF.out.2.1, HF.out.2.2 HNE.out⟩
            · repeat (first | (refine reg_anyT (by rfl) (fun K hK => ?_); go_simp; refine hK _ _ ?_; clear hK K) | (refine reg_read (by rfl) (fun K hK => ?_); go_simp; refine hK _ _ ?_; clear hK K))
              refine reg_new (by rfl) (fun rn K hK => ?_); go_simp
              refine hK _ _ ⟨((Mod.refl (fun _ => False) (World.drewN wq2 rn)).alloc (.cells #[.slice (some ⟨zb, 0, none⟩) 16 16, .slice ha hl hc, .slice sa L sc] 37)).ex, ?_⟩; clear hK K
              have Zq3 := Lib.hid (Zq2.out.stepB rn)
              clear Zq2
              obtain ⟨qb, hqb⟩ : ∃ b, b = wq2.heap.size := ⟨_, rfl⟩
              rw [← hqb] at Zq3 ⊢
              clear hqb
              generalize (World.drewN wq2 rn).alloc (.cells #[.slice (some ⟨zb, 0, none⟩) 16 16, .slice ha hl hc, .slice sa L sc] 37) = wq3 at *
              repeat (first | (refine reg_anyT (by rfl) (fun K hK => ?_); go_simp; refine hK _ _ ?_; clear hK K) | (refine reg_read (by rfl) (fun K hK => ?_); go_simp; refine hK _ _ ?_; clear hK K))
              refine reg_nilT ?_
              refine wpT_fork (by simp only [List.filterMap_cons, List.filterMap_nil, List.getElem?_cons_zero, List.getElem?_cons_succ]; exact rfl) (by simp only [List.filterMap_cons, List.filterMap_nil, List.getElem?_cons_zero, List.getElem?_cons_succ]; exact rfl) ?_ ?_
              · repeat (first | (refine reg_anyT (by rfl) (fun K hK => ?_); go_simp; refine hK _ _ ?_; clear hK K) | (refine reg_read (by rfl) (fun K hK => ?_); go_simp; refine hK _ _ ?_; clear hK K))
                refine reg_new (by rfl) (fun rn K hK => ?_); go_simp
                refine hK _ _ ⟨((Mod.refl (fun _ => False) (World.drewN wq3 rn)).alloc (.cells #[.slice none 0 0] 37)).ex, ?_⟩; clear hK K
                have Zq4 := Lib.hid (Zq3.out.stepA rn)
                have HNE := Lib.hid Zq3.out.neA
                clear Zq3
                obtain ⟨ab, hab⟩ : ∃ b, b = wq3.heap.size := ⟨_, rfl⟩
                rw [← hab] at Zq4 HNE ⊢
                clear hab
                generalize (World.drewN wq3 rn).alloc (.cells #[.slice none 0 0] 37) = wq4 at *
                repeat (first | (refine reg_anyT (by rfl) (fun K hK => ?_); go_simp; refine hK _ _ ?_; clear hK K) | (refine reg_read (by rfl) (fun K hK => ?_); go_simp; refine hK _ _ ?_; clear hK K))
                refine reg_new (by rfl) (fun rn K hK => ?_); go_simp
                refine ((Zq4.out.new ((Mod.refl _ wq4).drewN rn)).callC HE2.out).mono ?_; rintro e wq5 ⟨⟨vc9, rfl, z9⟩, m9⟩
                refine hK _ _ ⟨m9.ex, ?_⟩; clear hK K
                have Zq5 := Lib.hid z9
                obtain ⟨wa9, wc9, rfl, _, _⟩ := (z9.c _ rfl).len
                obtain ⟨wl9, hwl9⟩ : ∃ l, l = (hd 0 0 ++ (hd 1 L ++ encs rs)).length := ⟨_, rfl⟩
                rw [← hwl9] at Zq5 ⊢
                clear z9 m9 Zq4 hwl9
                repeat (first | (refine reg_anyT (by rfl) (fun K hK => ?_); go_simp; refine hK _ _ ?_; clear hK K) | (refine reg_read (by rfl) (fun K hK => ?_); go_simp; refine hK _ _ ?_; clear hK K))
                have a0 := (Zq5.out.a _ rfl).1.cell 0
                have a1 := (Zq5.out.a _ rfl).1.frozen 0
                repeat (first | (refine reg_anyT (by rfl) (fun K hK => ?_); go_simp; refine hK _ _ ?_; clear hK K) | (refine reg_read (by rfl) (fun K hK => ?_); go_simp; refine hK _ _ ?_; clear hK K))
                refine reg_eff (by rfl) (fun rn K hK => ?_); go_simp; refine hK _ _ ?_; clear hK K
                repeat (first | (refine reg_anyT (by rfl) (fun K hK => ?_); go_simp; refine hK _ _ ?_; clear hK K) | (refine reg_read (by rfl) (fun K hK => ?_); go_simp; refine hK _ _ ?_; clear hK K))
                refine reg_nilT ?_
                refine wpT_done (fun nd => ?_)
                have HF := Lib.hid (Zq5.out.fin rn nd)
                clear a0 a1 Zq5
                generalize World.drewN (World.setCell (World.drewN wq5 rn) ⟨ab, 0, none⟩ (.slice wa9 wl9 wc9)) nd = we at *
                go_wp2_with fail
                go_meet
                exact ⟨ab, _, rfl, HF.out.1, HF.out.2.1, HF.out.2.2 HNE.out⟩
              · repeat (first | (refine reg_anyT (by rfl) (fun K hK => ?_); go_simp; refine hK _ _ ?_; clear hK K) | (refine reg_read (by rfl) (fun K hK => ?_); go_simp; refine hK _ _ ?_; clear hK K))
                refine reg_new (by rfl) (fun rn K hK => ?_); go_simp
                refine ((Zq3.out.new ((Mod.refl _ wq3).drewN rn)).callC HE2.out).mono ?_; rintro e wq4 ⟨⟨vc9, rfl, z9⟩, m9⟩
                refine hK _ _ ⟨m9.ex, ?_⟩; clear hK K
                have Zq4 := Lib.hid z9
                obtain ⟨wa9, wc9, rfl, _, _⟩ := (z9.c _ rfl).len
                obtain ⟨wl9, hwl9⟩ : ∃ l, l = (hd 0 0 ++ (hd 1 L ++ encs rs)).length := ⟨_, rfl⟩
                rw [← hwl9] at Zq4 ⊢
                clear z9 m9 Zq3 hwl9
                repeat (first | (refine reg_anyT (by rfl) (fun K hK => ?_); go_simp; refine hK _ _ ?_; clear hK K) | (refine reg_read (by rfl) (fun K hK => ?_); go_simp; refine hK _ _ ?_; clear hK K))
                refine reg_new (by rfl) (fun rn K hK => ?_); go_simp
                refine hK _ _ ⟨((Mod.refl (fun _ => False) (World.drewN wq4 rn)).alloc (.cells #[.slice none 0 0] 37)).ex, ?_⟩; clear hK K
                have Zq5 := Lib.hid (Zq4.out.stepA rn)
                have HNE := Lib.hid Zq4.out.neA
                clear Zq4
                obtain ⟨ab, hab⟩ : ∃ b, b = wq4.heap.size := ⟨_, rfl⟩
                rw [← hab] at Zq5 HNE ⊢
                clear hab
                generalize (World.drewN wq4 rn).alloc (.cells #[.slice none 0 0] 37) = wq5 at *
                repeat (first | (refine reg_anyT (by rfl) (fun K hK => ?_); go_simp; refine hK _ _ ?_; clear hK K) | (refine reg_read (by rfl) (fun K hK => ?_); go_simp; refine hK _ _ ?_; clear hK K))
                have a0 := (Zq5.out.a _ rfl).1.cell 0
                have a1 := (Zq5.out.a _ rfl).1.frozen 0
                repeat (first | (refine reg_anyT (by rfl) (fun K hK => ?_); go_simp; refine hK _ _ ?_; clear hK K) | (refine reg_read (by rfl) (fun K hK => ?_); go_simp; refine hK _ _ ?_; clear hK K))
                refine reg_eff (by rfl) (fun rn K hK => ?_); go_simp; refine hK _ _ ?_; clear hK K
                repeat (first | (refine reg_anyT (by rfl) (fun K hK => ?_); go_simp; refine hK _ _ ?_; clear hK K) | (refine reg_read (by rfl) (fun K hK => ?_); go_simp; refine hK _ _ ?_; clear hK K))
                refine reg_nilT ?_
                refine wpT_done (fun nd => ?_)
                have HF := Lib.hid (Zq5.out.fin rn nd)
                clear a0 a1 Zq5
                generalize World.drewN (World.setCell (World.drewN wq5 rn) ⟨ab, 0, none⟩ (.slice wa9 wl9 wc9)) nd = we at *
                go_wp2_with fail
                go_meet
                exact ⟨ab, _, rfl, HF.out.1, HF.out.2.1, HF.out.2.2 HNE.out⟩
      case rest =>
        obtain ⟨bw, u, rfl, HW, HO, HP⟩ := hcut
        generalize wc = w9 at *
        clear HPE
        have T9 := Lib.hid (HP.out.m)
        have D9 := Lib.hid (HB.out.2.2.1.new HP.out.m)
        have JB9 := Lib.hid (show JB w9 j d N S C from HB.out.1.mod HP.out.m (fun e => e))
        have HSZ := Lib.hid (fun rn => jSizeNo true (D9.out.drewN rn) HB.out.2.2.2.1)
        have x0 := HP.out.x.cell 0
        have d0 := JB9.out.cell 0
        have f0 := HP.out.f.cell 0
        rw [← HN2.out] at HSZ f0
        go_wp2_with fail
        refine wp_region2 [] [] (by kernel_rfl) (by kernel_rfl) ?_
        repeat (first | (refine reg_anyT (by rfl) (fun K hK => ?_); go_simp; refine hK _ _ ?_; clear hK K) | (refine reg_read (by rfl) (fun K hK => ?_); go_simp; refine hK _ _ ?_; clear hK K))
        refine reg_eff (by rfl) (fun rn K hK => ?_); go_simp
        refine (HSZ.out rn).mono ?_; rintro e w' ⟨rfl, rfl⟩
        refine hK _ _ ?_; clear hK K
        repeat (first | (refine reg_anyT (by rfl) (fun K hK => ?_); go_simp; refine hK _ _ ?_; clear hK K) | (refine reg_read (by rfl) (fun K hK => ?_); go_simp; refine hK _ _ ?_; clear hK K))
        refine reg_nil (fun nd => ?_)
        have md : Mod (fun _ => False) w9 ((w9.drewN rn).drewN nd) := ((Mod.refl _ w9).drewN rn).drewN nd
        have PA := Lib.hid (HP.out.new md)
        have DA := Lib.hid (D9.out.new md)
        have JA := Lib.hid (show JB ((w9.drewN rn).drewN nd) j d N S C from JB9.out.mod md (fun e => e))
        have WA := Lib.hid (show Blk ((w9.drewN rn).drewN nd) bw _ _ from HW.out.mod md (fun e => e))
        have OA := Lib.hid (HO.out.new md)
        clear md HP D9 JB9 HW HO T9 x0 d0 f0 HSZ
        generalize (w9.drewN rn).drewN nd = wa at *
        have x0 := PA.out.x.cell 0
        have d0 := JA.out.cell 0
        go_wp2_with (at_builtin; refine app1 (base := w.heap.size) rfl (.tmp 51) (.tmp 62) 87 39 1 rfl Try.underlying87 infoFn rfl (by decide) (.slice none 0 0) 0 [] _ 6 ((ptFs bj bf bw bb d).map stV) (PA.out.m.alloc _).size (World.ownsRow_nil _ _ _ _) rfl rfl (sl_blk (xs := (ptFs bj bf bw bb d).map stV) (Blk.new wa ((ptFs bj bf bw bb d).map stV).toArray _)) (by simp [ptFs, stV, Value.oneCell']) (by decide) (by decide) ?_; intro v' w3 g1 g2 g3; have G1 := Lib.hid g1; have G2 := Lib.hid (((Mod.refl (fun _ => False) wa).alloc (.cells ((ptFs bj bf bw bb d).map stV).toArray 39)).new g2 (fun i e => by cases e)); clear g1 g2 g3)
        have hsz := PA.out.m.size
        have hlow : base ≤ w.heap.size := by have h1 := hlt; have h2 := HB.out.2.1; omega
        have HP0 : Hid (PtP w base j d N S C bj bf bw bb v' q (hd 0 0 ++ (hd 1 L ++ encs rs)) sa L sc u (ptFs bj bf bw bb d) 0 w3) := by
          have g2 := G2.out
          have T3 : TM [] 0 wa w3 := TM.new g2
          refine ⟨T3.blk PA.out.x (by simp), T3.blk PA.out.f (by simp), T3.blk WA.out (by simp), (OA.out.new g2).base hlow, T3.blk PA.out.b (by simp), ?_, TM.new (PA.out.m.trans g2), T3.blk JA.out (by simp), _, _, _, _, DA.out.new g2, HB.out.2.2.2.2⟩
          have h := G1.out
          obtain ⟨h1, h2⟩ := h
          refine ⟨h1, ?_⟩
          rcases h2 with ⟨_, h0⟩ | ⟨g, cap, cur, hv, hb, hh, rest⟩
          · cases h0
          · exact .inr ⟨g, cap, cur, hv, Nat.le_trans hlow hb, hh, rest⟩
        have HE2 : Hid (0 < (hd 0 0 ++ (hd 1 L ++ encs rs)).length ∧ (hd 0 0 ++ (hd 1 L ++ encs rs)).length ≤ 300000) := by
          have := HLN.out
          constructor
          · rw [List.length_append, len_hd]; omega
          · rw [List.length_append, List.length_append, len_hd, len_hd]; omega
        clear hsz hlow G1 G2 PA DA JA WA OA x0 d0
        refine (jAll v' (ptFs bj bf bw bb d) (PtP w base j d N S C bj bf bw bb v' q (hd 0 0 ++ (hd 1 L ++ encs rs)) sa L sc u (ptFs bj bf bw bb d)) w3 (fun k w' h => World.ownsRow.sl h.z) (fun k p w' h1 h2 => ptStep HB.out.2.1 HB.out.2.2.2.1 HE2.out.1 HE2.out.2 k p w' h1 h2) HP0.out (by simp [ptFs])).mono ?_
        rintro e w4 ⟨rfl, p4⟩
        obtain ⟨jb4, m4, st4, wv4, fb4, d4⟩ : JB w4 j d 1 L L ∧ ∃ m st wv fb, DK w4 base d 16777216 m (qNew ⟨fb, hd 0 0 ++ (hd 1 L ++ encs rs), hd 0 0 ++ (hd 1 L ++ encs rs)⟩) st [m] wv [] := p4.s
        have R4 : Hid ((∃ m st wv fb, JS w4 base j d ⟨fb, hd 0 0 ++ (hd 1 L ++ encs rs), hd 0 0 ++ (hd 1 L ++ encs rs)⟩ m st wv [] 1 L L) ∧ TM tJ base w w4) := ⟨⟨m4, st4, wv4, fb4, jb4, d4, HB.out.2.1⟩, p4.t⟩
        rw [HLL.out] at R4
        clear p4 jb4 d4 HP0
        go_wp2_with fail
        go_ret
        exact ⟨rfl, R4.out⟩
end Go.Proofs.Ytdlplablojdjlaa
