/- Package journal: records, the iterator; no condition. -/
import Derived.Test.YtdlplablojdjlaaOver
namespace Go.Proofs.Ytdlplablojdjlaa
open Go Go.RowKit Go.Shelf
attribute [local go_sem] Oper.semAt_some

/-- Records as bytes. -/
def encs (rs : List (List Nat)) : List Nat := rs.flatMap fun r => r.length :: r
theorem encs_cons (r : List Nat) (rs : List (List Nat)) : encs (r :: rs) = r.length :: (r ++ encs rs) := by simp [encs]
theorem encs_append (a b : List (List Nat)) : encs (a ++ b) = encs a ++ encs b := by simp [encs]
def OkR (rs : List (List Nat)) : Prop := ∀ r ∈ rs, 1 ≤ r.length ∧ r.length < 128
/-- A slice of bytes below a block. -/
structure BL (W : World) (B : Nat) (v : Value) (bs : List Nat) : Prop where
  bs : BS W v bs
  lo : ∀ x n c, v = .slice (some x) n c → x.block < B
/-- What the caller has of the records. -/
structure VL (W : World) (base Bl q : Nat) (rs : List (List Nat)) : Prop where
  k : ∃ lv vals, Blk W Bl #[lv] 32 ∧ W.ownsRow base 37 1 lv vals.length vals ∧ vals.length = rs.length ∧ (∀ (k : Nat) (v : Value) (r : List Nat), vals[k]? = some v → rs[k]? = some r → OB W base v r) ∧ lv.ownBlock ≠ some q
section
variable {S : Nat → Prop} {W W' : World} {base Bl B q : Nat} {rs : List (List Nat)} {v : Value} {bs : List Nat}
theorem NC.cell (h : NC W S) (hm : Mod S W W') {p : Addr} {u : Value} (hc : W.cell? p = some u) : W'.cell? p = some u := by
  refine hm.cell hc fun e => ?_
  unfold World.cell? at hc
  split at hc
  · rename_i hx
    exact h _ e _ _ _ hx
  · cases hc
theorem NC.bsl (h : NC W S) (hm : Mod S W W') (hb : BS W v bs) : BS W' v bs := ⟨hb.sl.keep fun _ _ hp _ => h.cell hm hp, hb.cap⟩
theorem NC.ob (h : NC W S) (hm : Mod S W W') {base : Nat} (hb : OB W base v bs) : OB W' base v bs := h.owns hm hb
theorem NC.vl (h : NC W S) (hm : Mod S W W') (hv : VL W base Bl q rs) : VL W' base Bl q rs := by
  obtain ⟨lv, vals, h1, h2, h3, h4, h5⟩ := hv.k
  exact ⟨lv, vals, h.blk hm h1, h.owns hm h2, h3, fun k v r e1 e2 => h.ob hm (h4 k v r e1 e2), h5⟩
theorem nc_put {l : Nat} {o : Obj} (h : W.heap[l]? = some o) (ho : o.isCells = false) : NC W (· = l) := fun i hi cs t z e => by
  rw [hi, h] at e
  cases e
  cases ho
theorem mod_put (W : World) (l : Nat) (o' : Obj) : Mod (· = l) W (W.putObj l o') := ⟨rfl, rfl, rfl, by simp, fun k _ hs => World.putObj_heap_other hs⟩
/-- Behind a turn of cells of other types. -/
theorem VL.tm {ts : List TypeId} {base' : Nat} (hv : VL W base Bl q rs) (hm : TM ts base' W W') (h1 : 37 ∉ ts) (h2 : 32 ∉ ts) (h3 : 5 ∉ ts) : VL W' base Bl q rs := by
  obtain ⟨lv, vals, a, b, c, d, e⟩ := hv.k
  exact ⟨lv, vals, hm.blk a h2, hm.owns b h1, c, fun k v r e1 e2 => hm.ob (d k v r e1 e2) h3, e⟩
theorem VL.new (hv : VL W base Bl q rs) (hm : Mod (fun _ => False) W W') : VL W' base Bl q rs := hv.tm (ts := []) (base' := 0) (TM.new hm) (by simp) (by simp) (by simp)
theorem BL.mod (h : BL W B v bs) (hm : Mod S W W') (hS : ∀ i, S i → B ≤ i) : BL W' B v bs :=
  ⟨h.bs.mod hm fun x n c e hs => by have := h.lo x n c e; have := hS _ hs; omega, h.lo⟩
theorem BL.new (h : BL W B v bs) (hm : Mod (fun _ => False) W W') : BL W' B v bs := h.mod hm fun _ e => e.elim
end
/-- Between two rounds: i records have come; q: the iterator's box. -/
structure It (w W : World) (q B Bl : Nat) (rs : List (List Nat)) (i j : Nat) : Prop where
  box : ∃ s, Blk W q #[s] 37 ∧ BL W B s (encs (rs.drop i))
  l : VL W w.heap.size Bl q (rs.take j)
  m : Mod (fun _ => False) w W
  lt : B ≤ q ∧ B ≤ Bl ∧ w.heap.size ≤ q ∧ w.heap.size ≤ Bl
theorem It.nc {S : Nat → Prop} {w W W' : World} {q B Bl : Nat} {rs : List (List Nat)} {i j : Nat} (h : It w W q B Bl rs i j) (n : NC W S) (hm : Mod S W W') (hS : ∀ i, S i → w.heap.size ≤ i) : It w W' q B Bl rs i j := by
  obtain ⟨s, h1, h2⟩ := h.box
  exact ⟨⟨s, n.blk hm h1, n.bsl hm h2.bs, h2.lo⟩, n.vl hm h.l, h.m.new hm hS, h.lt⟩
theorem It.deaf (w : World) (q B Bl : Nat) (rs : List (List Nat)) (i j : Nat) : Deaf w.heap.size (fun W => It w W q B Bl rs i j) := fun W l o o' h hl hg ho _ =>
  h.nc (nc_put hg ho) (mod_put W l o') fun i e => by omega
theorem It.new {w W W' : World} {q B Bl : Nat} {rs : List (List Nat)} {i j : Nat} (h : It w W q B Bl rs i j) (hm : Mod (fun _ => False) W W') : It w W' q B Bl rs i j := h.nc (fun _ e => e.elim) hm fun _ e => e.elim
theorem It.step {w W : World} {q B Bl : Nat} {rs : List (List Nat)} {i : Nat} {v : Value} (h : It w W q B Bl rs i (i + 1)) (hv : BL W B v (encs (rs.drop (i + 1)))) : It w (W.setCell ⟨q, 0, none⟩ v) q B Bl rs (i + 1) (i + 1) := by
  obtain ⟨s, h1, h2⟩ := h.box
  obtain ⟨lv, vals, a, b, c, d, e⟩ := h.l.k
  have hm := Mod.at1 (w := W) (· = q) rfl 0 v
  have hlt := h.lt
  have T := TM.set (base := 0) (ts := [37]) h1 (Nat.zero_le _) (by simp) 0 v
  refine ⟨⟨v, h1.set 0 v, hv.mod hm fun i e => by omega⟩, ⟨lv, vals, T.blk a (by simp), ?_, c, fun k v r e1 e2 => T.ob (d k v r e1 e2) (by simp), e⟩, h.m.new hm (fun i e => by omega), hlt⟩
  obtain ⟨b1, b2⟩ := b
  rcases b2 with b2 | ⟨g, cap, cur, hv2, hb, hh, rest⟩
  · exact ⟨b1, .inl b2⟩
  · exact ⟨b1, .inr ⟨g, cap, cur, hv2, hb, (show Blk W g cur _ from hh).mod hm (fun e' => e (by rw [hv2, e']; rfl)), rest⟩⟩
/-- How many bytes the iterator has yet to go over. -/
def qlen (q : Nat) (W : World) : Nat := match W.cell? ⟨q, 0, none⟩ with | some (.slice _ n _) => n | _ => 0
theorem BL.len {W : World} {B : Nat} {v : Value} {bs : List Nat} (h : BL W B v bs) : ∃ a c, v = .slice a bs.length c := by
  rcases h.bs.sl with ⟨rfl, h2, _⟩ | ⟨x, c, rfl, _, _⟩
  · exact ⟨none, 0, by rw [h2]⟩
  · exact ⟨some x, c, rfl⟩
theorem qlen_of {q B : Nat} {W : World} {s : Value} {bs : List Nat} (h : Blk W q #[s] 37) (hb : BL W B s bs) : qlen q W = bs.length := by
  obtain ⟨a, c, rfl⟩ := hb.len
  unfold qlen
  rw [h.cell 0]
  rfl
set_option maxRecDepth 100000 in
set_option maxHeartbeats 4000000 in
theorem jIter (w : World) (q B Bl : Nat) (rs : List (List Nat)) (hok : OkR rs) (hlen : (encs rs).length ≤ 1000000) (R : World → Prop) (l : Nat) (hR : ∀ W W', KeepsOthers W W' → R W → R W')
    (hY : ∀ i x W1, (It w W1 q B Bl rs i i ∧ ∃ r, rs[i]? = some r ∧ OB W1 w.heap.size x r) → R W1 → YieldAt Fence.wide 3 Try.prog l #[x] W1 fun e W' => e = .returned (.bool true) ∧ It w W' q B Bl rs i (i + 1) ∧ R W')
    (W : World) (h0 : It w W q B Bl rs 0 0) (hr0 : R W) :
    CallsIn Fence.wide 4 Try.prog 37 (#[.func (.yield l) #[] #[]] ++ #[.pointer (some ⟨q, 0, none⟩)]) W fun e W' => (∃ v, e = .returned v) ∧ It w W' q B Bl rs rs.length rs.length ∧ R W' := by
  refine callsIn_of_wp Try.func37 rfl trivial ?_ rfl
  simp only [Try.ntmps37, List.size_toArray, List.length_cons, List.length_nil, Nat.reduceAdd, Nat.reduceSub, Array.replicate_succ, Array.replicate_zero, List.push_toArray, List.append_toArray, List.nil_append, List.cons_append]
  have HOK := Lib.hid hok
  have HY := Lib.hid hY
  have HRR := Lib.hid hR
  have HLN := Lib.hid hlen
  clear hok hY hR hlen
  gi_wp2
  gi_loopw [3] (fun _ wr => ∃ i, i ≤ rs.length ∧ Hid (It w wr q B Bl rs i i) ∧ Hid (R wr)) (fun _ wr => qlen q wr)
  case atStart => exact ⟨0, Nat.zero_le _, h0, hr0⟩
  case round =>
    obtain ⟨i, hi, hit, hr⟩ := hrel
    obtain ⟨s, hq, hs⟩ := hit.out.box
    have q0 := hq.cell 0
    by_cases hlt : i < rs.length
    · obtain ⟨r, hri⟩ : ∃ r, rs[i]? = some r := ⟨_, List.getElem?_eq_getElem hlt⟩
      have hdr : rs.drop i = r :: rs.drop (i + 1) := by
        rw [List.drop_eq_getElem_cons hlt]
        congr 1
        rw [List.getElem?_eq_getElem hlt] at hri
        exact Option.some.inj hri
      have hrok := HOK.out r (List.mem_of_getElem? hri)
      have hle : (encs (rs.drop i)).length ≤ 1000000 := by
        have h1 : encs rs = encs (rs.take i) ++ encs (rs.drop i) := by rw [← encs_append, List.take_append_drop]
        have h2 := HLN.out
        rw [h1, List.length_append] at h2
        omega
      rw [hdr, encs_cons] at hs hle
      obtain ⟨m, hm⟩ : ∃ m, m = (r.length :: (r ++ encs (rs.drop (i + 1)))).length := ⟨_, rfl⟩
      obtain ⟨k, hk⟩ : ∃ k, k = r.length := ⟨_, rfl⟩
      have hmk : 1 + k ≤ m := by rw [hm, hk]; simp; omega
      obtain ⟨X, c, rfl, hmc⟩ : ∃ X c, s = .slice (some X) m c ∧ m ≤ c := by
        rcases hs.bs.sl with ⟨rfl, h2, _⟩ | ⟨x, c, rfl, _, _⟩
        · simp at h2
        · exact ⟨x, c, by rw [hm], hm ▸ hs.bs.cap x _ c rfl⟩
      have HL := Lib.hid (jLong _ r.length _ wr hs.bs (by omega))
      have HQL := Lib.hid (show qlen q wr = m by rw [qlen_of hq hs, hm])
      rw [← hk] at HL
      have HS := Lib.hid hs
      have HQ := Lib.hid hq
      have HM := Lib.hid (And.intro hm hk)
      have HRI := Lib.hid (And.intro hri hdr)
      have HRK := Lib.hid hrok
      have HLE := Lib.hid hle
      have a1 : IntKind.i64.wrap (1 + (k : Int)) = 1 + k := wrapI (by omega) (by omega)
      have a2 : ¬ ((m : Int) < 1 + k) := by omega
      have a3 : (1 + (k : Int)) ≤ c := by omega
      have a4 : ¬ c = 1 := by omega
      have a5 : (1 : Int) ≤ m := by omega
      have a6 : (1 : Int) ≤ 1 + k := by omega
      clear hm hk hs hq hri hdr hrok hle
      gi_wp2
      refine ⟨trivial, (callsIn_wide.2 HL.out).mono ?_⟩; rintro e w1 ⟨rfl, m1⟩
      have Q1 := Lib.hid (HQ.out.mod m1 (fun e => e))
      have S1 := Lib.hid (HS.out.new m1)
      have I1 := Lib.hid (hit.out.new m1)
      have R1 := Lib.hid (HRR.out _ _ (keeps_of_mod m1 (fun _ e => e.elim)) hr.out)
      have q1 := Q1.out.cell 0
      clear HQ HS m1 HL hit hr q0
      have B1 : Hid (BS w1 (.slice (some ⟨X.block, X.off + 1, none⟩) k (c - 1)) r) := by
        have := S1.out.bs.cut (k := 1) (m := k) (c' := c - 1) (by omega) (by omega)
        rw [show X.add 1 = ⟨X.block, X.off + 1, none⟩ by simp [Addr.add], List.drop_one, List.tail_cons, HM.out.2, List.take_left] at this
        rw [HM.out.2]
        exact this
      gi_wp2
      refine ⟨trivial, (callsIn_wide.2 (jClone _ r w1 B1.out (by have := HRK.out; omega))).mono ?_⟩; rintro e w2 ⟨x, rfl, o2, m2⟩
      have Q2 := Lib.hid (Q1.out.mod m2 (fun e => e))
      have S2 := Lib.hid (S1.out.new m2)
      have I2 := Lib.hid (I1.out.new m2)
      have R2 := Lib.hid (HRR.out _ _ (keeps_of_mod m2 (fun _ e => e.elim)) R1.out)
      have O2 := Lib.hid (o2.base I1.out.m.size)
      obtain ⟨fn, tmps, assign, body, hy, hRd⟩ := HY.out i x w2 ⟨I2.out, r, HRI.out.1, O2.out⟩ R2.out
      clear Q1 S1 I1 R1 B1 o2 m2 q1
      gi_wp2
      refine hRd.mono ?_
      rintro e w3 ⟨rfl, i3, r3⟩
      obtain ⟨s', hq, hs⟩ := i3.box
      rw [HRI.out.2, encs_cons, ← HM.out.2] at hs
      have hm0 : m = (k :: (r ++ encs (rs.drop (i + 1)))).length := by rw [HM.out.1]; rfl
      obtain ⟨X', c', rfl, hmc'⟩ : ∃ X c, s' = .slice (some X) m c ∧ m ≤ c := by
        rcases hs.bs.sl with ⟨rfl, h2, _⟩ | ⟨x, c, rfl, _, _⟩
        · simp at h2
        · exact ⟨x, c, by rw [hm0], hm0 ▸ hs.bs.cap x _ c rfl⟩
      have Q3 := Lib.hid hq
      have S3 := Lib.hid hs
      have I3 := Lib.hid i3
      have R3 := Lib.hid r3
      have q1 := hq.cell 0
      have q2 := hq.frozen 0
      have b1 : (1 + (k : Int)) ≤ m := by omega
      have b2 : (m : Int) ≤ c' := by omega
      have hdrop : Hid ((k :: (r ++ encs (rs.drop (i + 1)))).drop (1 + k) = encs (rs.drop (i + 1))) := by
        show _ = _
        rw [Nat.add_comm, List.drop_succ_cons, HM.out.2, List.drop_left]
      clear hq hs i3 r3 hm0 hy hRd Q2 S2 I2 R2 O2
      by_cases hc : c' = 1 + k
      · have hmk2 : m = 1 + k := by omega
        have hnl : encs (rs.drop (i + 1)) = [] := by
          have h1 := S3.out.bs.lenE
          have h2 := congrArg List.length hdrop.out
          rw [List.length_drop, ← h1] at h2
          exact List.length_eq_zero_iff.1 (by omega)
        have hbl : BL w3 B (.slice (some X') 0 0) (encs (rs.drop (i + 1))) := by
          rw [hnl]
          exact ⟨⟨.inr ⟨X', 0, rfl, rfl, fun j u hj => by simp [byts] at hj⟩, fun x n c e => by cases e; exact Nat.le_refl _⟩, fun x n c e => by cases e; exact S3.out.lo X' _ _ rfl⟩
        have HBL := Lib.hid hbl
        have HI4 := Lib.hid (I3.out.step hbl)
        have HQ4 := Lib.hid (qlen_of (Q3.out.set 0 (.slice (some X') 0 0)) (hbl.mod (Mod.at1 (w := w3) (· = q) rfl 0 _) (fun i e => by have := I3.out.lt; omega)))
        have HM1 := Lib.hid hmk2
        have HLN2 := Lib.hid (congrArg List.length hnl)
        clear hbl hnl
        gi_wp2
        refine ⟨⟨i + 1, by omega, HI4.out, HRR.out _ _ (KeepsOthers.setCell _ _ _) R3.out⟩, ?_⟩
        rw [HQ4.out, HQL.out, HLN2.out]
        simp
        omega
      · have hbl : BL w3 B (.slice (some (X'.add (1 + k))) (m - (1 + k)) (c' - (1 + k))) (encs (rs.drop (i + 1))) := by
          have := S3.out.bs.cut (k := 1 + k) (m := m - (1 + k)) (c' := c' - (1 + k)) (by omega) (by omega)
          rw [hdrop.out, List.take_of_length_le (by
            have h1 := S3.out.bs.lenE
            have h2 := congrArg List.length hdrop.out
            rw [List.length_drop, ← h1] at h2
            omega)] at this
          exact ⟨this, fun x n c e => by cases e; rw [Addr.add_block]; exact S3.out.lo X' _ _ rfl⟩
        have HI4 := Lib.hid (I3.out.step hbl)
        have HQ4 := Lib.hid (qlen_of (Q3.out.set 0 _) (hbl.mod (Mod.at1 (w := w3) (· = q) rfl 0 _) (fun i e => by have := I3.out.lt; omega)))
        have HLN2 := Lib.hid hbl.bs.lenE
        clear hbl
        gi_wp2
        refine ⟨⟨i + 1, by omega, HI4.out, HRR.out _ _ (KeepsOthers.setCell _ _ _) R3.out⟩, ?_⟩
        rw [HQ4.out, HQL.out, ← HLN2.out]
        omega
    · have hnil : rs.drop i = [] := List.drop_eq_nil_of_le (by omega)
      rw [hnil] at hs
      have HL := Lib.hid (jLongNil s wr hs.bs)
      gi_wp2
      refine ⟨trivial, (callsIn_wide.2 HL.out).mono ?_⟩; rintro e w1 ⟨rfl, m1⟩
      have hin : i = rs.length := by omega
      subst hin
      have I1 := Lib.hid (hit.out.new m1)
      have R1 := Lib.hid (HRR.out _ _ (keeps_of_mod m1 (fun _ e => e.elim)) hr.out)
      clear HL m1
      gi_wp2
      refine ⟨trivial, ?_⟩
      gi_wp2
      refine ⟨fun f e => (by cases e), ?_⟩
      gi_wp2
      refine bodyPost_ret (results_none rfl _ _ _) rfl ?_
      exact ⟨⟨_, rfl⟩, I1.out, R1.out⟩
end Go.Proofs.Ytdlplablojdjlaa
