/- Package journal: Open; no condition. -/
import Derived.Test.YtdlplablojdjlaaJu
import Derived.Maps.AppendAt
import Derived.Maps.OwnIn
namespace Go.Proofs.Ytdlplablojdjlaa
open Go Go.RowKit Go.Shelf
attribute [local go_sem] Oper.semAt_some

theorem blk_ty {W : World} {i : Nat} {cs cs' : Array Value} {t t' : TypeId} (h : Blk W i cs t) (h' : Blk W i cs' t') : t = t' := by
  have e : some (Obj.cells cs t (0, 0)) = some (Obj.cells cs' t' (0, 0)) := (show W.heap[i]? = _ from h).symm.trans h'
  cases e
  rfl
theorem ob_some {W : World} {base : Nat} {v : Value} {bs : List Nat} (h : OB W base v bs) (h1 : 1 ≤ bs.length) : ∃ g c, v = .slice (some ⟨g, 0, none⟩) bs.length c ∧ base ≤ g := by
  rcases h.2 with ⟨_, h0⟩ | ⟨g, cap, cur, rfl, hb, _⟩
  · omega
  · exact ⟨g, cap, rfl, hb⟩
theorem push_box {W W1 : World} {base Bl : Nat} {x lv : Value} {vals : List Value} (hb : Blk W Bl #[lv] 32) (hl : W.ownsRow base 37 1 lv vals.length vals) (hg : (W.alloc (.cells #[x] 37)).grownBy W1 lv.ownBlock) : Blk W1 Bl #[lv] 32 := by
  have m1 : Mod (fun i => lv.ownBlock = some i) W W1 := ((Mod.refl _ W).alloc _).grown hg fun k e => .inl e
  refine hb.mod m1 fun e => ?_
  rcases hl.2 with ⟨rfl, _⟩ | ⟨g, cap, cur, rfl, _, hh, _⟩
  · cases e
  · cases e
    exact absurd (blk_ty hb (show Blk W _ cur _ from hh)) (by decide)
/-- One more record behind the list. -/
theorem It.push {w W W1 : World} {q B Bl : Nat} {rs : List (List Nat)} {i : Nat} {x v' : Value} {r : List Nat} {lv : Value} {vals : List Value} (h : It w W q B Bl rs i i) (hB : B ≤ w.heap.size) (hr : rs[i]? = some r) (hx : OB W w.heap.size x r)
    (hb : Blk W Bl #[lv] 32) (hl : W.ownsRow w.heap.size 37 1 lv vals.length vals) (hn : vals.length = (rs.take i).length) (he : ∀ (k : Nat) (v : Value) (r : List Nat), vals[k]? = some v → (rs.take i)[k]? = some r → OB W w.heap.size v r) (hq : lv.ownBlock ≠ some q)
    (hown : W1.ownsRow w.heap.size 37 1 v' (vals.length + 1) (vals ++ [x])) (hg : (W.alloc (.cells #[x] 37)).grownBy W1 lv.ownBlock) (hv' : v'.ownBlock = lv.ownBlock ∨ v'.ownBlock = some (W.alloc (.cells #[x] 37)).heap.size) :
    It w (W1.setCell ⟨Bl, 0, none⟩ v') q B Bl rs i (i + 1) ∧ KeepsOthers W (W1.setCell ⟨Bl, 0, none⟩ v') := by
  obtain ⟨s, hbox, hs⟩ := h.box
  have hlt := h.lt
  have m1 : Mod (fun i => lv.ownBlock = some i) W W1 := ((Mod.refl _ W).alloc _).grown hg fun k e => .inl e
  have hlo : ∀ i, lv.ownBlock = some i → w.heap.size ≤ i ∧ ∃ cs, Blk W i cs 37 := fun i e => by
    refine ⟨(World.ownsRow.lt hl i e).1, ?_⟩
    rcases hl.2 with ⟨rfl, _⟩ | ⟨g, cap, cur, rfl, _, hh, _⟩
    · cases e
    · cases e; exact ⟨cur, hh⟩
  have hnl : ∀ i cs t, Blk W i cs t → t ≠ 37 → lv.ownBlock ≠ some i := fun i cs t hb ht e => by
    obtain ⟨_, cs', h'⟩ := hlo i e
    exact ht (blk_ty hb h')
  have hb1 : Blk W1 Bl #[lv] 32 := hb.mod m1 (hnl _ _ _ hb (by decide))
  have hbox1 : Blk W1 q #[s] 37 := hbox.mod m1 hq
  have hqb : q ≠ Bl := fun e => by
    subst e
    exact absurd (blk_ty hb hbox) (by decide)
  have m2 := Mod.at1 (w := W1) (· = Bl) rfl 0 v'
  have T2 := TM.set (base := 0) (ts := [32]) hb1 (Nat.zero_le _) (by simp) 0 v'
  have hob : ∀ v r, OB W w.heap.size v r → OB (W1.setCell ⟨Bl, 0, none⟩ v') w.heap.size v r := fun v r ho => T2.ob (ho.mod m1 fun i e e2 => by
    obtain ⟨_, cs, h1⟩ := hlo i e2
    rcases ho.2 with ⟨rfl, _⟩ | ⟨g, cap, cur, rfl, _, hh, _⟩
    · cases e
    · cases e
      exact absurd (blk_ty (show Blk W _ cur _ from hh) h1) (by decide)) (by simp)
  refine ⟨⟨⟨s, hbox1.mod m2 hqb, (hs.mod m1 fun i e => by have := (hlo i e).1; omega).mod m2 fun i e => by omega⟩, ⟨v', vals ++ [x], hb1.set 0 v', ?_, ?_, fun k v r' e1 e2 => ?_, ?_⟩, (h.m.new m1 fun i e => (hlo i e).1).new m2 fun i e => by omega, hlt⟩, ?_⟩
  · have := T2.owns hown (by simp)
    simpa using this
  · have h3 : i < rs.length := (List.getElem?_eq_some_iff.1 hr).1
    simp [hn]
    omega
  · have h3 : i < rs.length := (List.getElem?_eq_some_iff.1 hr).1
    have h4 : vals.length = i := by rw [hn, List.length_take]; omega
    by_cases hk : k < vals.length
    · rw [List.getElem?_append_left hk] at e1
      refine hob v r' (he k v r' e1 ?_)
      rw [List.getElem?_take] at e2 ⊢
      rw [if_pos (by omega)] at e2 ⊢
      exact e2
    · rw [List.getElem?_append_right (by omega)] at e1
      have h5 : k = i := by
        have := (List.getElem?_eq_some_iff.1 e1).1
        simp at this
        omega
      subst h5
      rw [h4, Nat.sub_self] at e1
      cases e1
      rw [List.getElem?_take, if_pos (by omega), hr] at e2
      cases e2
      exact hob x r hx
  · rcases hv' with e | e
    · rw [e]; exact hq
    · rw [e]
      intro e2
      have h6 : q < W.heap.size := hbox.lt
      simp at e2
      omega
  · refine ((KeepsOthers.alloc W _).trans (KeepsOthers.of_grownBy hg fun j o ej hj => ?_)).trans (KeepsOthers.setCell _ _ _)
    obtain ⟨_, cs, h1⟩ := hlo j ej
    have h7 : Blk (W.alloc (.cells #[x] 37)) j cs 37 := h1.mod ((Mod.refl (fun _ => False) W).alloc _) (fun e => e)
    have h8 : some o = some (Obj.cells cs 37 (0, 0)) := hj.symm.trans h7
    cases h8
    rfl
section
variable {S S' : Nat → Prop} {a b c : World}
theorem Mod.late (h : Mod S a b) (k : Mod S' b c) (hS : ∀ i, S' i → a.heap.size ≤ i) : Mod S a c :=
  ⟨k.os.trans h.os, k.tape.trans h.tape, k.output.trans h.output, Nat.le_trans h.size k.size, fun i hi hs => (k.block i (Nat.lt_of_lt_of_le hi h.size) fun e => by have := hS i e; omega).trans (h.block i hi hs)⟩
theorem TM.obj {ts : List TypeId} {base i : Nat} {o : Obj} (h : TM ts base a b) (hb : a.heap[i]? = some o) (ho : o.isCells = false) : b.heap[i]? = some o := Mod.heap h hb fun e => by
  obtain ⟨_, cs, t, z, h2, _⟩ := e
  rw [hb] at h2
  cases h2
  cases ho
end
theorem JS.put {w : World} {base j d m N S C l : Nat} {F : FileS} {st wv : Value} {o' : Obj} {ds : List Deferred} (h : JS w base j d F m st wv [] N S C) (hl : w.heap[l]? = some (.deferred (some ds))) : JS (w.putObj l o') base j d F m st wv [] N S C := by
  have hm := mod_put w l o'
  have nc := nc_put hl rfl
  refine ⟨nc.blk hm h.jb, ⟨nc.blk hm h.dk.hd, h.dk.hm.mod hm (fun e => ?_), nc.owns hm h.dk.hst, nc.owns hm h.dk.hwv, fun o F e => ?_, h.dk.ne, h.dk.bd, h.dk.rm⟩, h.jge⟩
  · obtain ⟨es, c, h4⟩ := h.dk.hm.isMap
    rw [e, hl] at h4
    cases h4
  · obtain ⟨⟨nv, sv, a, b, c⟩, g, s⟩ := h.dk.hf o F e
    exact ⟨⟨nv, sv, nc.blk hm a, nc.ob hm b, nc.ob hm c⟩, g, s⟩
/-- What Open gives. -/
def OpP (w : World) (base d : Nat) (rs : List (List Nat)) (L : Nat) (e : Ending) (w' : World) : Prop :=
  ∃ j lv vals m st wv fb, e = .returned (.tuple #[.pointer (some ⟨j, 0, none⟩), lv, .int .i64 0]) ∧ JS w' base j d ⟨fb, hd 0 0 ++ (hd 1 L ++ encs rs), hd 0 0 ++ (hd 1 L ++ encs rs)⟩ m st wv [] 1 L L ∧ Sl w' lv 1 rs.length vals ∧ (∀ (k : Nat) (v : Value) (r : List Nat), vals[k]? = some v → rs[k]? = some r → BS w' v r) ∧ TM tJ base w w'
theorem jHas {base d m : Nat} {w : World} {q : QF} {st wv : Value} {ms : List Nat} {rs : List (List Nat)} (h : DK w base d 16777216 m q st ms wv []) (hc : (q false = none ∧ rs = []) ∨ ∃ F N, q = qNew F ∧ N ≤ 1048576 ∧ Ct F.n N (encs rs)) :
    ∃ (B : List Nat) (er : Int), (B = [] ∧ encs rs = [] ∨ ∃ N, N ≤ 1048576 ∧ Ct B N (encs rs)) ∧ ∀ w', Mod (fun _ => False) w w' →
      (Calls Try.prog 17 #[.pointer (some ⟨d, 0, none⟩), .string (nmOf false)] w' fun e w'' => e = .returned (.tuple #[.int .i64 B.length, .int .i64 er]) ∧ w'' = w') ∧
      (Calls Try.prog 18 #[.pointer (some ⟨d, 0, none⟩), .string (nmOf false), .int .i64 0, .int .i64 B.length] w' fun e w'' => ∃ v, e = .returned (.tuple #[v, .int .i64 er]) ∧ OB w'' w'.heap.size v B ∧ Mod (fun _ => False) w' w'') := by
  rcases hc with ⟨hq, rfl⟩ | ⟨F, N, rfl, hN, hct⟩
  · refine ⟨[], 4, .inl ⟨rfl, rfl⟩, fun w' hm => ⟨jSizeNo false (h.new hm) hq, (jReadNo false 0 0 (h.new hm) hq).mono ?_⟩⟩
    rintro e w'' ⟨rfl, rfl⟩
    exact ⟨_, rfl, World.ownsRow_nil _ _ _ _, Mod.refl _ _⟩
  · refine ⟨F.n, 0, .inr ⟨N, hN, hct⟩, fun w' hm => ⟨jSizeOf false F (h.new hm) rfl, jReadOf false F (h.new hm) rfl ?_⟩⟩
    obtain ⟨a0, b0, a1, b1, e, _⟩ := hct
    rw [e]
    intro e2
    have := congrArg List.length e2
    rw [List.length_append, len_hd] at this
    simp at this
theorem ob_nc {w : World} {x : Value} {rs : List (List Nat)} {i q B Bl j : Nat} : Deaf w.heap.size (fun W => It w W q B Bl rs i j ∧ ∃ r, rs[i]? = some r ∧ OB W w.heap.size x r) := fun W l o o' h hl hg ho hk => by
  obtain ⟨h1, r, hr, h2⟩ := h
  exact ⟨It.deaf w q B Bl rs i j W l o o' h1 hl hg ho hk, r, hr, (nc_put hg ho).ob (mod_put W l o') h2⟩
theorem infoRw : (Try.prog.info? 37).map (fun i => (i.zero, i.size, i.bytes)) = some (some (.slice none 0 0), 1, 24) := by kernel_rfl
set_option maxRecDepth 100000 in
set_option maxHeartbeats 4000000 in
theorem jOpenIn {base d m : Nat} {w : World} {q : QF} {st wv : Value} {ms : List Nat} {rs : List (List Nat)} (h : DK w base d 16777216 m q st ms wv []) (hq : q true = none) (hms : ms.length ≤ 1) (hc : (q false = none ∧ rs = []) ∨ ∃ F N, q = qNew F ∧ N ≤ 1048576 ∧ Ct F.n N (encs rs)) (hok : OkR rs) (hlen : (encs rs).length ≤ 200000) :
    CallsIn Fence.wide 5 Try.prog 7 #[.pointer (some ⟨d, 0, none⟩), .string (nmOf false)] w (OpP w base d rs (encs rs).length) := by
  obtain ⟨B, er, hB, hfile⟩ := jHas h hc
  have HF := Lib.hid hfile
  have HBE := Lib.hid hB
  have HD := Lib.hid (And.intro h (And.intro hq hms))
  have HOK := Lib.hid hok
  have HLN := Lib.hid hlen
  have HOFF := Lib.hid (fun (w' : World) (hm : Mod (fun _ => False) w w') => jOff (h.new hm))
  have HM1 := Lib.hid (jMay false)
  have HM2 := Lib.hid (jMay true)
  have HADD := hadd
  obtain ⟨N1, hN1⟩ : ∃ S, S = nmOf false := ⟨_, rfl⟩
  obtain ⟨N2, hN2⟩ : ∃ S, S = nmOf true := ⟨_, rfl⟩
  rw [← hN1] at HADD HF HM1 ⊢
  rw [← hN2] at HADD HM2
  have hsz : N1.size = 4 := by rw [hN1]; rfl
  have HN1 := Lib.hid hN1
  obtain ⟨BL0, hBL⟩ : ∃ n, n = B.length := ⟨_, rfl⟩
  rw [← hBL] at HF
  clear h hq hms hc hok hlen hfile hB hN1 hN2 hBL
  refine callsIn_of_wp_marks Try.func7 rfl trivial ?_ rfl
  simp only [Try.ntmps7, List.size_toArray, List.length_cons, List.length_nil, Nat.reduceAdd, Nat.reduceSub, Array.replicate_succ, Array.replicate_zero, List.push_toArray, List.append_toArray, List.nil_append, List.cons_append]
  gi_wp2
  refine ⟨trivial, (callsIn_wide.2 (HM1.out w)).mono ?_⟩; rintro e w1 ⟨rfl, m1⟩
  have M1 := Lib.hid m1
  clear m1
  gi_wp2
  refine ⟨trivial, (callsIn_wide.2 (HM2.out w1)).mono ?_⟩; rintro e w2 ⟨rfl, m2⟩
  have M2 := Lib.hid (M1.out.trans m2)
  clear m2 M1 HM1 HM2
  gi_wp2
  refine ⟨trivial, (callsIn_wide.2 (HOFF.out w2 M2.out)).mono ?_⟩; rintro e w3 ⟨rfl, e3⟩
  subst w3
  gi_wp2
  refine ⟨trivial, (callsIn_wide.2 (HF.out w2 M2.out).1).mono ?_⟩; rintro e w3 ⟨rfl, e3⟩
  subst w3
  gi_wp2
  refine ⟨trivial, (callsIn_wide.2 (HF.out w2 M2.out).2).mono ?_⟩; rintro e w3 ⟨v3, rfl, o3, m3⟩
  have M3 := Lib.hid (M2.out.trans m3)
  have O3 := Lib.hid o3
  have b3 := Blk.new w3 #[.slice none 0 0] 32
  have A3 := Lib.hid ((Mod.refl (fun _ => False) w3).alloc (.cells #[.slice none 0 0] 32))
  have HFD := Lib.hid (jFoundAny (B0 := w3.heap.size) (o3.new A3.out) HBE.out (by have := HLN.out; omega) (fun x n c e => by obtain ⟨a, c', hv, _, hlt⟩ := o3.len; rw [hv] at e; cases e; exact (hlt x rfl).2))
  have B3 := Lib.hid b3
  clear m3 M2 HF HOFF o3 b3
  gi_wp2
  refine ⟨trivial, (callsIn_wide.2 HFD.out).mono ?_⟩; rintro e w5 ⟨⟨v5, rfl, bl5⟩, m5⟩
  have HRC := Lib.hid (jRecords · · · w5)
  have B5 := Lib.hid (B3.out.mod m5 (fun e => e))
  have N5 := Lib.hid (A3.out.trans m5)
  have BL5 := Lib.hid bl5
  obtain ⟨a5, c5, rfl⟩ := bl5.len
  clear bl5 m5 HFD B3 A3
  gi_wp2
  refine ⟨trivial, (callsIn_wide.2 (HRC.out _ _ _)).mono ?_⟩; rintro e w6 ⟨rfl, e6⟩
  subst e6
  obtain ⟨q5, hq5⟩ : ∃ q, q = w5.heap.size := ⟨_, rfl⟩
  obtain ⟨b5, hb5⟩ : ∃ q, q = w3.heap.size := ⟨_, rfl⟩
  have I6 : It w3 (w5.alloc (.cells #[.slice a5 (encs rs).length c5] 37)) q5 b5 b5 rs 0 0 := by
    refine ⟨⟨.slice a5 (encs rs).length c5, by rw [hq5]; exact Blk.new w5 _ _, ?_⟩, ⟨.slice none 0 0, [], ?_, World.ownsRow_nil _ _ _ _, rfl, fun k v r e1 => (by simp at e1), (by intro e; cases e)⟩, N5.out.alloc _, ?_⟩
    · rw [hb5]
      exact BL5.out.new ((Mod.refl _ w5).alloc _)
    · rw [hb5]
      exact B5.out.mod ((Mod.refl (fun _ => False) w5).alloc _) (fun e => e)
    · have := N5.out.size
      omega
  have hle : w3.heap.size ≤ (w5.alloc (.cells #[.slice a5 (encs rs).length c5] 37)).heap.size := I6.m.size
  have HI6 := Lib.hid I6
  have HQ5 := Lib.hid (And.intro hq5 hb5)
  have HLE := Lib.hid hle
  clear I6 B5 N5 BL5 hle
  gi_wp2
  rw [← hq5, ← hb5]
  clear hq5 hb5
  generalize w5.alloc (.cells #[.slice a5 (encs rs).length c5] 37) = w6 at *
  have d6 : ∀ l, w6.heap.size ≤ l → w3.heap.size ≤ l := fun l h => Nat.le_trans HLE.out h
  refine' range_over (F := Fence.wide) (n := 5) rfl (by omega) (gf := 37) (lb := #[.pointer (some ⟨q5, 0, none⟩)]) rfl trivial (enters_of Try.func37 (by kernel_rfl) rfl) rfl
    (fun W => It w3 W q5 b5 b5 rs 0 0) (fun W => It w3 W q5 b5 b5 rs rs.length rs.length) (fun i x W => It w3 W q5 b5 b5 rs i i ∧ ∃ r, rs[i]? = some r ∧ OB W w3.heap.size x r) (fun i _ W => It w3 W q5 b5 b5 rs i (i + 1))
    (fun o => HI6.out.new (((Mod.refl _ w6).alloc _).alloc o)) (fun i x W l o o' hj hl hg ho hk => ob_nc W l o o' hj (d6 l hl) hg ho hk) (fun i _ W l o o' hj hl hg ho hk => It.deaf w3 q5 b5 b5 rs i (i + 1) W l o o' hj (d6 l hl) hg ho hk) (fun W l o o' hj hl hg ho hk => It.deaf w3 q5 b5 b5 rs rs.length rs.length W l o o' hj (d6 l hl) hg ho hk) _ ?assign ?body ?hit ?done
  case assign =>
    intro l x W K hK
    gi_wp2
    exact hK
  case hit => exact fun R l hR hY W h0 hr0 => jIter w3 q5 b5 b5 rs HOK.out (by have := HLN.out; omega) R l hR hY W h0 hr0
  case body =>
    rintro l i x W ⟨hit, r, hr, ho⟩
    obtain ⟨lv, vals, hb, hl, hn, he, hq⟩ := hit.l.k
    have HIT := Lib.hid hit
    obtain ⟨gx, cx, rfl, _⟩ := ob_some ho (HOK.out r (List.mem_of_getElem? hr)).1
    have hvl : vals.length ≤ 200000 := by
      have h1 := len_encs rs
      have h2 := HLN.out
      rw [hn, List.length_take]
      omega
    obtain ⟨i0, hi, hz0, hz1, hz2⟩ := info_parts infoRw
    have c0 := hb.cell 0
    have HPK := Lib.hid (And.intro hn (And.intro he hq))
    clear hn he hq
    gi_wp2_with (gi_at_builtin; refine wpListIn_append_own_at _ rfl _ _ 32 rfl w3.heap.size 37 i0 (.slice none 0 0) 1 24 Try.underlying32 hi hz0 hz1 hz2 rfl (by decide) _ _ _ rfl (hl.alloc _) ⟨W.heap.size, 0, none⟩ 1 1 [.slice (some ⟨gx, 0, none⟩) r.length cx] rfl rfl (fun j u hj => by rw [add_g]; exact ((Blk.new W _ _).cell j).trans (by simpa using hj)) (by simp [Value.oneCell']) (by unfold maxLen; omega) (by omega) (by have := HIT.out.m.size; simp; omega) ?_; intro v' w1 hown' hgrow _ hv'; have hb1 := push_box hb hl hgrow; obtain ⟨g', cap', rfl⟩ := ownsRow_succ hown'; have HV := Lib.hid (And.intro hown' (And.intro hgrow hv')); clear hown' hgrow hv'; have hc1 := hb1.cell 0; have hf1 := hb1.frozen 0)
    obtain ⟨h1, h2⟩ := It.push HIT.out (by rw [HQ5.out.2]; exact Nat.le_refl _) hr ho hb hl HPK.out.1 HPK.out.2.1 HPK.out.2.2 HV.out.1 HV.out.2.1 HV.out.2.2
    exact ⟨h2, h1⟩
  case done =>
    intro D W hD hje hK
    obtain ⟨lv, vals, hb, hl, hn, he, hq⟩ := hje.l.k
    rw [List.take_length] at hn he
    have hvl : vals.length ≤ 200000 := by
      have h1 := len_encs rs
      have h2 := HLN.out
      omega
    have c0 := fun o => (hb.mod ((Mod.refl (fun _ => False) W).alloc o) (fun e => e)).cell 0
    obtain ⟨la, lc, rfl⟩ : ∃ a c, lv = .slice a rs.length c := by
      rw [← hn]
      rcases hl.2 with ⟨rfl, h0⟩ | ⟨g, cap, cur, rfl, _⟩
      · rw [h0]; exact ⟨none, 0, rfl⟩
      · exact ⟨_, _, rfl⟩
    have W3 := Lib.hid (M3.out.trans hje.m)
    have VL3 := Lib.hid (And.intro hb (And.intro hl (And.intro hn he)))
    have HK := Lib.hid hK
    have HWD : Hid (w.heap.size ≤ D) := by
      have h1 := M3.out.size
      have h2 := HLE.out
      exact Nat.le_trans h1 (Nat.le_trans h2 hD)
    clear hje hK hb hl hn he hq hD M3 O3 HI6 HQ5 HLE HRC d6 HBE HADD
    have HP : Hid (∀ cs, cs = #[.pointer (some ⟨d, 0, none⟩), .string N1, .int .i64 0, .int .i64 0, .int .i64 0, .bool false] → Calls Try.prog 21 #[.pointer (some ⟨W.heap.size, 0, none⟩), .slice la rs.length lc] (W.alloc (.cells cs 64)) fun e w' => e = .returned (.int .i64 0) ∧ (∃ m st wv fb, JS w' base W.heap.size d ⟨fb, hd 0 0 ++ (hd 1 (encs rs).length ++ encs rs), hd 0 0 ++ (hd 1 (encs rs).length ++ encs rs)⟩ m st wv [] 1 (encs rs).length (encs rs).length) ∧ TM tJ base (W.alloc (.cells cs 64)) w') := fun cs e => by
      have ma := (Mod.refl (fun _ => False) W).alloc (.cells cs 64)
      have dk := HD.out.1.new (W3.out.trans ma)
      have hbj : base ≤ W.heap.size := by
        have h1 := HD.out.1.hd.lt
        have h2 := HD.out.1.bd
        have h3 := W3.out.size
        omega
      obtain ⟨_, v2, v3, v4⟩ := VL3.out
      have v2' := (World.ownsRow.sl v2).keep (w' := W.alloc (.cells cs 64)) fun p u hp _ => ma.cell hp (fun e => e)
      rw [v3] at v2'
      exact jPut (N := 0) (S := 0) (C := 0) (show JB _ _ _ _ _ _ from by subst e; rw [HN1.out]; exact Blk.new W _ _) hbj dk HD.out.2.1 HD.out.2.2 v2' (fun k u r e1 e2 => ((v4 k u r e1 e2).new ma).bs) HOK.out HLN.out
    have HPQ := Lib.hid (HP.out _ rfl)
    have MA := Lib.hid (W3.out.alloc (.cells #[.pointer (some ⟨d, 0, none⟩), .string N1, .int .i64 0, .int .i64 0, .int .i64 0, .bool false] 64))
    have MB := Lib.hid ((Mod.refl (fun _ => False) W).alloc (.cells #[.pointer (some ⟨d, 0, none⟩), .string N1, .int .i64 0, .int .i64 0, .int .i64 0, .bool false] 64))
    clear HP
    gi_wp2
    refine ⟨trivial, (callsIn_wide.2 HPQ.out).mono ?_⟩; rintro e w8 ⟨rfl, ⟨m8, st8, wv8, fb8, j8⟩, t8⟩
    have c8 := (t8.blk (VL3.out.1.mod MB.out (fun e => e)) (by decide)).cell 0
    have J8 := Lib.hid j8
    have T8 := Lib.hid t8
    clear j8 t8 c0 HPQ
    gi_wp2
    gi_region
    have KD : w8.drew.heap[D]? = some (.deferred (some [])) := T8.out.obj (Mod.heap MB.out HK.out (fun e => e)) rfl
    have KH := Lib.hid KD
    have RF : Hid (JS (w8.drew.putObj D (.deferred none)) base W.heap.size d ⟨fb8, hd 0 0 ++ (hd 1 (encs rs).length ++ encs rs), hd 0 0 ++ (hd 1 (encs rs).length ++ encs rs)⟩ m8 st8 wv8 [] 1 (encs rs).length (encs rs).length ∧ Sl (w8.drew.putObj D (.deferred none)) (.slice la rs.length lc) 1 rs.length vals ∧ (∀ (k : Nat) (v : Value) (r : List Nat), vals[k]? = some v → rs[k]? = some r → BS (w8.drew.putObj D (.deferred none)) v r) ∧ TM tJ base w (w8.drew.putObj D (.deferred none))) := by
      have nc := nc_put KD rfl
      have mp := mod_put w8.drew D (.deferred none)
      have md := (Mod.refl (fun _ => False) w8).drew
      obtain ⟨_, v2, v3, v4⟩ := VL3.out
      have u2 := nc.owns mp ((TM.owns (T8.out.trans (TM.new md)) (TM.owns (TM.new (ts := tJ) (base := base) MB.out) v2 (by decide)) (by decide)))
      rw [v3] at u2
      refine ⟨(J8.out.new md).put KD, World.ownsRow.sl u2, fun k v r e1 e2 => (nc.ob mp (TM.ob (T8.out.trans (TM.new md)) ((v4 k v r e1 e2).new MB.out) (by decide))).bs, ?_⟩
      exact (((TM.new (ts := tJ) (base := base) MA.out).trans T8.out).trans (TM.new md)).late mp fun i e => by rw [e]; exact HWD.out
    clear KD
    gi_wp2
    refine ⟨by simp, .inl ⟨_, _, rfl, run_takeDeferred KH.out, ?_⟩⟩
    exact ⟨_, results_tmp3 rfl _ _ _, W.heap.size, .slice la rs.length lc, vals, m8, st8, wv8, fb8, rfl, RF.out⟩
theorem jOpen {base d m : Nat} {w : World} {q : QF} {st wv : Value} {ms : List Nat} {rs : List (List Nat)} (h : DK w base d 16777216 m q st ms wv []) (hq : q true = none) (hms : ms.length ≤ 1) (hc : (q false = none ∧ rs = []) ∨ ∃ F N, q = qNew F ∧ N ≤ 1048576 ∧ Ct F.n N (encs rs)) (hok : OkR rs) (hlen : (encs rs).length ≤ 200000) :
    Calls Try.prog 7 #[.pointer (some ⟨d, 0, none⟩), .string (nmOf false)] w (OpP w base d rs (encs rs).length) := callsIn_wide.1 (jOpenIn h hq hms hc hok hlen)
end Go.Proofs.Ytdlplablojdjlaa
