/- Package rarest: Gone, Add, Peers, Pick where nothing is picked; no condition but the table. -/
import Derived.Test.YtegmgflplhpacaaDoorRaF
import Derived.Test.YtegmgflplhpacaaDoorKeysL
namespace Go.Proofs.YtegmgflplhpacaaDoor
open Go Go.RowKit

theorem BD.cn' {w w2 : World} {b M g n : Nat} {most : Int} {c c2 : Nat → Int} {ks : List (Int × Ow)} (h : BD w b M g n most c ks) (hm : Mod (· = g) w w2) (hc : Cn w2 g n c2) : BD w2 b M g n most c2 ks :=
  ⟨h.head.mod hm (by have := h.ne; omega), h.map.mod hm (by have := h.ne; omega), hc, fun q hq => (h.sets q hq).mod hm (by have := h.off q hq; omega) (by have := h.off q hq; omega), h.ne, h.off, h.two, h.tab⟩
theorem BD.del {w w2 : World} {b M g n : Nat} {most : Int} {c : Nat → Int} {ks : List (Int × Ow)} (h : BD w b M g n most c ks) {peer : Int} (hm : Mod (· = M) w w2) (him : IMap Tryd.prog 3 w2 M (mpO (delL ks peer))) : BD w2 b M g n most c (delL ks peer) :=
  ⟨h.head.mod hm (by have := h.ne; omega), him, h.cn.mod hm (by have := h.ne; omega), fun q hq => (h.sets q (List.mem_filter.1 hq).1).mod hm (by have := h.off q (List.mem_filter.1 hq).1; omega) (by have := h.off q (List.mem_filter.1 hq).1; omega), h.ne, fun q hq => h.off q (List.mem_filter.1 hq).1, h.two.filter _, fun i hi => h.tab i (by
    rcases hi with e | e | e | ⟨q, hq, e⟩
    · exact .inl e
    · exact .inr (.inl e)
    · exact .inr (.inr (.inl e))
    · exact .inr (.inr (.inr ⟨q, (List.mem_filter.1 hq).1, e⟩)))⟩

set_option maxRecDepth 100000 in
set_option maxHeartbeats 4000000 in
theorem rareGone (peer : Int) (o : Ow) (b M g n : Nat) (most : Int) (c : Nat → Int) (ks : List (Int × Ow)) (w : World) (h : BD w b M g n most c ks) (hT : TabW w) (hI : I64 peer) (hr : ∀ k, -900 ≤ c k ∧ c k ≤ 900) (hn : n ≤ 1024) (hyes : lkL ks peer = some o) :
    Calls Tryd.prog 41 #[.pointer (some ⟨b, 0, none⟩), .int .i64 peer] w fun e w' => e = .returned (.int .i64 0) ∧ BD w' b M g n most (cnK c o.f (-1) n) (delL ks peer) ∧ Mod (fun i => i = M ∨ i = g) w w' := by
  have c2 := h.head.cell 2
  have hl := h.map.lookOk Tryd.underlying3 Tryd.underlying60 (zeroPtr w) hI
  rw [lk_mpO, hyes] at hl
  simp only [Option.map_some, Option.getD_some, Option.isSome_some] at hl
  have hz := zeroPtr
  have H := Lib.hid h
  have HIP := Lib.hid hI
  have hmem := lk_some_mem hyes
  have hso := h.sets _ hmem
  have hoff := h.off _ hmem
  have htg := h.tab g (.inr (.inr (.inl rfl)))
  have HCC := Lib.hid (rareCount b g n o.s o.g (-1) c o.f w (h.head.cell 3) h.cn hso hT (by decide) (fun k => by have := hr k; omega) hn ⟨by have := h.ne; omega, by simp only at hoff; omega, by simp only at hoff; omega, by omega⟩)
  clear h hI hmem hso hoff htg hT hr hyes
  go_enter Tryd.func41, Tryd.ntmps41
  go_wp2_with fail
  refine HCC.out.mono ?_; rintro e w2 ⟨rfl, hc, m2⟩
  have B2 := Lib.hid (H.out.cn' m2 hc)
  have M2 := Lib.hid m2
  have k2 := B2.out.head.cell 2
  obtain ⟨w6, hrun, him, hm6, hz6⟩ := B2.out.map.del Tryd.underlying3 Tryd.underlying60 0 HIP.out
  rw [del_mpO] at him
  have B6 := Lib.hid (B2.out.del hm6 him)
  have M6 := Lib.hid ((mod_w (Q := fun i => i = M ∨ i = g) M2.out (fun i e => .inr e)).trans (mod_w hm6 (fun i e => .inl e)))
  clear hc m2 him hm6 hz6 hl c2
  go_wp2_with fail
  go_ret
  exact ⟨rfl, B6.out, M6.out⟩
set_option maxRecDepth 100000 in
theorem rareGoneNo (peer : Int) (b M g n : Nat) (most : Int) (c : Nat → Int) (ks : List (Int × Ow)) (w : World) (h : BD w b M g n most c ks) (hI : I64 peer) (hno : lkL ks peer = none) :
    Calls Tryd.prog 41 #[.pointer (some ⟨b, 0, none⟩), .int .i64 peer] w fun e w' => e = .returned (.int .i64 4) ∧ w = w' := by
  have c2 := h.head.cell 2
  have hl := h.map.lookOk Tryd.underlying3 Tryd.underlying60 (zeroPtr w) hI
  rw [lk_mpO, hno] at hl
  simp only [Option.map_none, Option.getD_none, Option.isSome_none] at hl
  have hz := zeroPtr
  clear h hI hno
  go_enter Tryd.func41, Tryd.ntmps41
  go_wp2_with fail
  go_ret
  exact ⟨rfl, rfl⟩

set_option maxRecDepth 100000 in
theorem rareAddNo (peer k : Int) (b M g n : Nat) (most : Int) (c : Nat → Int) (ks : List (Int × Ow)) (w : World) (h : BD w b M g n most c ks) (hI : I64 peer) (hno : lkL ks peer = none) :
    Calls Tryd.prog 39 #[.pointer (some ⟨b, 0, none⟩), .int .i64 peer, .int .i64 k] w fun e w' => e = .returned (.int .i64 4) ∧ w = w' := by
  have c2 := h.head.cell 2
  have hl := h.map.lookOk Tryd.underlying3 Tryd.underlying60 (zeroPtr w) hI
  rw [lk_mpO, hno] at hl
  simp only [Option.map_none, Option.getD_none, Option.isSome_none] at hl
  have hz := zeroPtr
  clear h hI hno
  go_enter Tryd.func39, Tryd.ntmps39
  go_wp2_with fail
  go_ret
  exact ⟨rfl, rfl⟩
set_option maxRecDepth 100000 in
theorem rareAddBad (peer k : Int) (o : Ow) (b M g n : Nat) (most : Int) (c : Nat → Int) (ks : List (Int × Ow)) (w : World) (h : BD w b M g n most c ks) (hI : I64 peer) (hyes : lkL ks peer = some o) (hk : k < 0 ∨ n ≤ k) :
    Calls Tryd.prog 39 #[.pointer (some ⟨b, 0, none⟩), .int .i64 peer, .int .i64 k] w fun e w' => e = .returned (.int .i64 1) ∧ w = w' := by
  have c2 := h.head.cell 2; have c0 := h.head.cell 0
  have hl := h.map.lookOk Tryd.underlying3 Tryd.underlying60 (zeroPtr w) hI
  rw [lk_mpO, hyes] at hl
  simp only [Option.map_some, Option.getD_some, Option.isSome_some] at hl
  have hz := zeroPtr
  clear h hI hyes
  by_cases h1 : k < 0
  · go_enter Tryd.func39, Tryd.ntmps39
    go_wp2_with fail
    go_ret
    exact ⟨rfl, rfl⟩
  · have h2 : (n : Int) ≤ k := by omega
    go_enter Tryd.func39, Tryd.ntmps39
    go_wp2_with fail
    go_ret
    exact ⟨rfl, rfl⟩
theorem pw_sym {α : Type} {R : α → α → Prop} (hs : ∀ x y, R x y → R y x) : ∀ {l : List α}, l.Pairwise R → ∀ x ∈ l, ∀ y ∈ l, x ≠ y → R x y
  | [], _, x, h, _, _, _ => by simp at h
  | z :: t, h, x, hx, y, hy, hne => by
    obtain ⟨h1, h2⟩ := List.pairwise_cons.1 h
    rcases List.mem_cons.1 hx with e1 | hx1
    · rcases List.mem_cons.1 hy with e2 | hy1
      · exact absurd (e1.trans e2.symm) hne
      · rw [e1]; exact h1 y hy1
    · rcases List.mem_cons.1 hy with e2 | hy1
      · rw [e2]; exact hs _ _ (h1 x hx1)
      · exact pw_sym hs h2 x hx1 y hy1 hne
theorem fil_same {f : Nat → Bool} {k : Nat} (h : f k = true) : fil f k (k + 1) true = f := by
  funext x
  unfold fil
  split
  · obtain rfl : x = k := by omega
    exact h.symm
  · rfl
/-- What Add leaves of counts. -/
def addC (c : Nat → Int) (f : Nat → Bool) (k : Nat) : Nat → Int := fun j => if j = k ∧ f k = false then c j + 1 else c j
/-- Behind a piece more of one that is known. -/
theorem BD.more {w w2 w3 : World} {b M g n : Nat} {most : Int} {c c2 : Nat → Int} {ks : List (Int × Ow)} (h : BD w b M g n most c ks) {peer : Int} {o : Ow} {f : Nat → Bool} (hmem : (peer, o) ∈ ks) (_ : Rising ks) (hs : BSet w2 o.s o.g n f) (hm : Mod (· = o.g) w w2) (hm3 : Mod (· = g) w2 w3) (hc : Cn w3 g n c2)
    (him : IMap Tryd.prog 3 w M (mpO (putL ks peer ⟨o.s, o.g, f⟩))) : BD w3 b M g n most c2 (putL ks peer ⟨o.s, o.g, f⟩) := by
  have hoff := h.off _ hmem
  simp only at hoff
  have hpw := pw_sym (R := fun p q : Int × Ow => p.2.s ≠ q.2.s ∧ p.2.s ≠ q.2.g ∧ p.2.g ≠ q.2.s ∧ p.2.g ≠ q.2.g) (fun x y h => by omega) h.two
  have hdel : ∀ q ∈ delL ks peer, q ∈ ks ∧ q ≠ (peer, o) := fun q hq => by
    obtain ⟨h1, h2⟩ := List.mem_filter.1 hq
    refine ⟨h1, fun e => ?_⟩
    rw [e] at h2
    simp at h2
  have hne := h.ne
  have hput : ∀ q ∈ putL ks peer ⟨o.s, o.g, f⟩, q = (peer, ⟨o.s, o.g, f⟩) ∨ q ∈ delL ks peer := fun q hq => by
    unfold putL at hq
    exact mem_insS.1 hq
  refine ⟨(h.head.mod hm (by omega)).mod hm3 (by omega), (him.mod hm (by omega)).mod hm3 (by omega), hc, fun q hq => ?_, h.ne, fun q hq => ?_, ?_, fun i hi => ?_⟩
  · rcases hput q hq with rfl | hq
    · exact hs.mod hm3 (show ¬ o.s = g by omega) (show ¬ o.g = g by omega)
    · obtain ⟨h1, h2⟩ := hdel q hq
      have h3 := hpw _ hmem _ h1 (fun e => h2 e.symm)
      simp only at h3
      have h4 := h.off q h1
      exact ((h.sets q h1).mod hm (by omega) (by omega)).mod hm3 (by omega) (by omega)
  · rcases hput q hq with rfl | hq
    · simp only; omega
    · exact h.off q (hdel q hq).1
  · unfold putL
    refine pairwise_insS _ (h.two.filter _) (fun q hq => ?_) (fun q hq => ?_)
    · obtain ⟨h1, h2⟩ := hdel q hq
      exact hpw (peer, o) hmem q h1 (fun e => h2 e.symm)
    · obtain ⟨h1, h2⟩ := hdel q hq
      exact hpw q h1 (peer, o) hmem h2
  · rcases hi with e | e | e | ⟨q, hq, e⟩
    · exact h.tab i (.inl e)
    · exact h.tab i (.inr (.inl e))
    · exact h.tab i (.inr (.inr (.inl e)))
    · rcases hput q hq with rfl | hq
      · exact h.tab i (.inr (.inr (.inr ⟨(peer, o), hmem, e⟩)))
      · exact h.tab i (.inr (.inr (.inr ⟨q, (hdel q hq).1, e⟩)))
/-- The same pointers: the same map. -/
theorem mpO_same {ks : List (Int × Ow)} {peer : Int} {o : Ow} {f : Nat → Bool} (hr : Rising ks) (hmem : (peer, o) ∈ ks) : mpO (putL ks peer ⟨o.s, o.g, f⟩) = mpO ks := by
  rw [← put_mpO]
  show putL (mpO ks) peer (.pointer (some ⟨o.s, 0, none⟩)) = mpO ks
  have hr2 : Rising (mpO ks) := by unfold Rising mpO; rw [List.pairwise_map]; exact hr
  have hm2 : (peer, Value.pointer (some ⟨o.s, 0, none⟩)) ∈ mpO ks := List.mem_map.2 ⟨_, hmem, rfl⟩
  generalize mpO ks = l at hr2 hm2
  clear hr hmem
  induction l with
  | nil => simp at hm2
  | cons q t ih =>
    obtain ⟨h1, h2⟩ := List.pairwise_cons.1 hr2
    by_cases e : q.1 = peer
    · have hq : q = (peer, Value.pointer (some ⟨o.s, 0, none⟩)) := by
        rcases List.mem_cons.1 hm2 with h | h
        · exact h.symm
        · have := h1 _ h
          simp only at this
          omega
      have hd : delL (q :: t) peer = t := by
        unfold delL
        rw [List.filter_cons, if_neg (by simp [e]), List.filter_eq_self]
        intro y hy
        have := h1 y hy
        simp
        omega
      unfold putL
      rw [hd, hq]
      rw [hq] at h1
      cases t with
      | nil => rfl
      | cons y t2 =>
        have := h1 y (List.mem_cons_self ..)
        simp only at this
        unfold insS
        rw [if_pos this]
    · have ht : (peer, Value.pointer (some ⟨o.s, 0, none⟩)) ∈ t := by
        rcases List.mem_cons.1 hm2 with h | h
        · exact absurd (by rw [← h]) e
        · exact h
      have hlt := h1 _ ht
      simp only at hlt
      have hd : delL (q :: t) peer = q :: delL t peer := by
        unfold delL
        rw [List.filter_cons, if_pos (by simpa using e)]
      have := ih h2 ht
      unfold putL at this ⊢
      rw [hd]
      show insS (peer, _) (q :: delL t peer) = q :: t
      unfold insS
      rw [if_neg (by simp only; omega), this]
set_option maxRecDepth 100000 in
set_option maxHeartbeats 4000000 in
theorem rareAdd (peer : Int) (k : Nat) (o : Ow) (b M g n : Nat) (most : Int) (c : Nat → Int) (ks : List (Int × Ow)) (w : World) (h : BD w b M g n most c ks) (hI : I64 peer) (hr : ∀ k, -900 ≤ c k ∧ c k ≤ 900) (hyes : lkL ks peer = some o) (hk : k < n) :
    Calls Tryd.prog 39 #[.pointer (some ⟨b, 0, none⟩), .int .i64 peer, .int .i64 k] w fun e w' => e = .returned (.int .i64 0) ∧ BD w' b M g n most (addC c o.f k) (putL ks peer ⟨o.s, o.g, fil o.f k (k + 1) true⟩) ∧ Mod (fun i => i = o.g ∨ i = g) w w' := by
  have c2 := h.head.cell 2; have c0 := h.head.cell 0; have c3 := h.head.cell 3
  have hl := h.map.lookOk Tryd.underlying3 Tryd.underlying60 (zeroPtr w) hI
  rw [lk_mpO, hyes] at hl
  simp only [Option.map_some, Option.getD_some, Option.isSome_some] at hl
  have hz := zeroPtr
  have hmem := lk_some_mem hyes
  have hso := h.sets _ hmem
  have hoff := h.off _ hmem
  simp only at hso hoff
  have hri : Rising ks := by have := h.map.rising; unfold Rising mpO at this; rwa [List.pairwise_map] at this
  have HH := Lib.hid (bitsHas o.s o.g n o.f (k : Int) w hso)
  rw [show hasB o.f (k : Int) = o.f k by simp [hasB]] at HH
  have HP := Lib.hid (bitsPut o.s o.g n o.f k true w hso hk)
  have him : IMap Tryd.prog 3 w M (mpO (putL ks peer ⟨o.s, o.g, fil o.f k (k + 1) true⟩)) := by rw [mpO_same hri hmem]; exact h.map
  have H := Lib.hid h
  have HIM := Lib.hid him
  have HME := Lib.hid (show (peer, o) ∈ ks ∧ Rising ks from ⟨hmem, hri⟩)
  have HSO := Lib.hid hso
  have HOF := Lib.hid hoff
  have hki : (k : Int) < n := by omega
  have hcr := hr k
  obtain ⟨ck, hck⟩ : ∃ x, x = c k := ⟨_, rfl⟩
  have hcat := h.cn.at hk
  rw [← hck] at hcat hcr
  have hw : IntKind.i64.wrap (ck + 1) = ck + 1 := by unfold IntKind.wrap; simp [IntKind.bits, IntKind.signed]; omega
  have HCK := Lib.hid hck
  have HCA := Lib.hid hcat
  clear h hI hmem hso hoff hri hr hyes him hck hcat
  cases hfk : o.f k with
  | true =>
    have HFK := Lib.hid hfk
    rw [hfk] at HH
    clear hfk
    go_enter Tryd.func39, Tryd.ntmps39
    go_wp2_with fail
    refine HH.out.mono ?_; rintro e w2 ⟨rfl, rfl⟩
    go_wp2_with fail
    go_ret
    refine ⟨rfl, ?_, Mod.refl _ _⟩
    have hc : addC c o.f k = c := by funext j; unfold addC; rw [HFK.out]; simp
    rw [hc]
    exact H.out.more HME.out.1 HME.out.2 (by rw [fil_same HFK.out]; exact HSO.out) (Mod.refl _ _) (Mod.refl _ _) H.out.cn HIM.out
  | false =>
    have HFK := Lib.hid hfk
    rw [hfk] at HH
    clear hfk
    go_enter Tryd.func39, Tryd.ntmps39
    go_wp2_with fail
    refine HH.out.mono ?_; rintro e w2 ⟨rfl, rfl⟩
    go_wp2_with fail
    refine HP.out.mono ?_; rintro e w2 ⟨rfl, h2, m2⟩
    have k3 := m2.cell c3 (by show ¬ b = o.g; have := HOF.out; omega)
    have hg2 : Cn w2 g n c := H.out.cn.mod m2 (by have := HOF.out; omega)
    have hc2 := hg2.at hk
    rw [← HCK.out] at hc2
    obtain ⟨e1, e2⟩ := hc2
    have HC2 := Lib.hid (hg2.put (c' := addC c o.f k) k (ck + 1) (by unfold addC; rw [if_pos ⟨rfl, HFK.out⟩, ← HCK.out]) (fun j hj hjk => by unfold addC; rw [if_neg (fun h => hjk h.1)]))
    have S2 := Lib.hid h2
    have M2 := Lib.hid m2
    have M3 := Lib.hid ((Mod.refl (· = g) w2).set1 k (.int .i64 (ck + 1)))
    clear h2 m2 hg2 hl c2 c0 c3
    go_wp2_with fail
    go_ret
    exact ⟨rfl, H.out.more HME.out.1 HME.out.2 S2.out M2.out M3.out HC2.out HIM.out, (mod_w M2.out (fun i e => .inl e)).trans (mod_w M3.out (fun i e => .inr e))⟩

theorem keys_mpO (ks : List (Int × Ow)) : keysL (mpO ks) = keysL ks := by
  unfold keysL mpO
  rw [List.map_map]
  rfl
set_option maxRecDepth 100000 in
set_option maxHeartbeats 1000000 in
theorem rarePeers (b M g n : Nat) (most : Int) (c : Nat → Int) (ks : List (Int × Ow)) (w : World) (h : BD w b M g n most c ks) (hlen : ks.length ≤ 1000) :
    Calls Tryd.prog 21 #[.pointer (some ⟨b, 0, none⟩)] w (IntsP (keysL ks) w) := by
  have c2 := h.head.cell 2
  have hk := Tryd.maps_Keys_45 (some M) w
  have hs := Tryd.slices_Sorted_keys_45 M _ (toD (mpO ks)) RV w h.map.owns (by rw [size_toD, mpO_len]; unfold maxLen; omega) (by rw [size_toD, mpO_len]; omega)
  have HK := Lib.hid hk
  have HS := Lib.hid hs
  have HR := Lib.hid h.map.rising
  clear h hk hs
  go_enter Tryd.func21, Tryd.ntmps21
  go_wp2_with fail
  refine HK.out.mono ?_; rintro e w1 ⟨rfl, rfl⟩
  go_wp2_with fail
  refine HS.out.mono ?_; rintro e w2 hq
  have hq2 := IntsP.of_sorted HR.out ((Mod.refl (fun _ => False) w).alloc _) hq
  obtain ⟨v, rfl, o, m⟩ := hq2
  rw [keys_mpO] at o
  have O := Lib.hid o
  have M2 := Lib.hid m
  clear hq o m
  go_wp2_with fail
  go_ret
  exact ⟨v, rfl, O.out, M2.out⟩
end Go.Proofs.YtegmgflplhpacaaDoor
