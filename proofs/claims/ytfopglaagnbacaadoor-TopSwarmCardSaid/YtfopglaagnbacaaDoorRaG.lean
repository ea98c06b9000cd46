/- Package rarest: Gone, Add, Peers, Pick where nothing is picked; no condition but the table. -/
import Derived.Test.YtfopglaagnbacaaDoorRaF
import Derived.Test.YtfopglaagnbacaaDoorKeysL
namespace Go.Proofs.YtfopglaagnbacaaDoor
open Go Go.RowKit

theorem BD.cn' {w w2 : World} {b M g n : Nat} {most : Int} {c c2 : Nat → Int} {ks : List (Int × Ow)} (h : BD w b M g n most c ks) (hm : Mod (· = g) w w2) (hc : Cn w2 g n c2) : BD w2 b M g n most c2 ks :=
  ⟨h.head.mod hm (by have := h.ne; omega), h.map.mod hm (by have := h.ne; omega), hc, fun q hq => (h.sets q hq).mod hm (by have := h.off q hq; omega) (by have := h.off q hq; omega), h.ne, h.off, h.two, h.tab⟩
theorem BD.del {w w2 : World} {b M g n : Nat} {most : Int} {c : Nat → Int} {ks : List (Int × Ow)} (h : BD w b M g n most c ks) {peer : Int} (hm : Mod (· = M) w w2) (him : IMap Tryd.prog 3 w2 M (mpO (delL ks peer))) : BD w2 b M g n most c (delL ks peer) :=
  ⟨h.head.mod hm (by have := h.ne; omega), him, h.cn.mod hm (by have := h.ne; omega), fun q hq => (h.sets q (List.mem_filter.1 hq).1).mod hm (by have := h.off q (List.mem_filter.1 hq).1; omega) (by have := h.off q (List.mem_filter.1 hq).1; omega), h.ne, fun q hq => h.off q (List.mem_filter.1 hq).1, h.two.filter _, fun i hi => h.tab i (by
    rcases hi with e | e | e | ⟨q, hq, e⟩
    · exact .inl e
    · exact .inr (.inl e)
    · exact .inr (.inr (.inl e))
    · exact .inr (.inr (.inr ⟨q, (List.mem_filter.1 hq).1, e⟩)))⟩


theorem pw_sym {α : Type} {R : α → α → Prop} (hs : ∀ x y, R x y → R y x) : ∀ {l : List α}, l.Pairwise R → ∀ x ∈ l, ∀ y ∈ l, x ≠ y → R x y
  | [], _, x, h, _, _, _ => by simp at h
  | z :: t, h, x, hx, y, hy, hne => by
    obtain ⟨h1, h2⟩ := List.pairwise_cons.1 h
    rcases List.mem_cons.1 hx with e1 | hx1
    · rcases List.mem_cons.1 hy with e2 | hy1
      · exact absurd (e1.trans e2.symm) hne
      · rw [e1]; exact h1 y hy1
    · rcases List.mem_cons.1 hy with e2 | hy1
      · rw [e2]; exact hs _ _ (h1 x hx1)
      · exact pw_sym hs h2 x hx1 y hy1 hne
theorem fil_same {f : Nat → Bool} {k : Nat} (h : f k = true) : fil f k (k + 1) true = f := by
  funext x
  unfold fil
  split
  · obtain rfl : x = k := by omega
    exact h.symm
  · rfl
/-- What Add leaves of counts. -/
def addC (c : Nat → Int) (f : Nat → Bool) (k : Nat) : Nat → Int := fun j => if j = k ∧ f k = false then c j + 1 else c j
/-- Behind a piece more of one that is known. -/
theorem BD.more {w w2 w3 : World} {b M g n : Nat} {most : Int} {c c2 : Nat → Int} {ks : List (Int × Ow)} (h : BD w b M g n most c ks) {peer : Int} {o : Ow} {f : Nat → Bool} (hmem : (peer, o) ∈ ks) (_ : Rising ks) (hs : BSet w2 o.s o.g n f) (hm : Mod (· = o.g) w w2) (hm3 : Mod (· = g) w2 w3) (hc : Cn w3 g n c2)
    (him : IMap Tryd.prog 3 w M (mpO (putL ks peer ⟨o.s, o.g, f⟩))) : BD w3 b M g n most c2 (putL ks peer ⟨o.s, o.g, f⟩) := by
  have hoff := h.off _ hmem
  simp only at hoff
  have hpw := pw_sym (R := fun p q : Int × Ow => p.2.s ≠ q.2.s ∧ p.2.s ≠ q.2.g ∧ p.2.g ≠ q.2.s ∧ p.2.g ≠ q.2.g) (fun x y h => by omega) h.two
  have hdel : ∀ q ∈ delL ks peer, q ∈ ks ∧ q ≠ (peer, o) := fun q hq => by
    obtain ⟨h1, h2⟩ := List.mem_filter.1 hq
    refine ⟨h1, fun e => ?_⟩
    rw [e] at h2
    simp at h2
  have hne := h.ne
  have hput : ∀ q ∈ putL ks peer ⟨o.s, o.g, f⟩, q = (peer, ⟨o.s, o.g, f⟩) ∨ q ∈ delL ks peer := fun q hq => by
    unfold putL at hq
    exact mem_insS.1 hq
  refine ⟨(h.head.mod hm (by omega)).mod hm3 (by omega), (him.mod hm (by omega)).mod hm3 (by omega), hc, fun q hq => ?_, h.ne, fun q hq => ?_, ?_, fun i hi => ?_⟩
  · rcases hput q hq with rfl | hq
    · exact hs.mod hm3 (show ¬ o.s = g by omega) (show ¬ o.g = g by omega)
    · obtain ⟨h1, h2⟩ := hdel q hq
      have h3 := hpw _ hmem _ h1 (fun e => h2 e.symm)
      simp only at h3
      have h4 := h.off q h1
      exact ((h.sets q h1).mod hm (by omega) (by omega)).mod hm3 (by omega) (by omega)
  · rcases hput q hq with rfl | hq
    · simp only; omega
    · exact h.off q (hdel q hq).1
  · unfold putL
    refine pairwise_insS _ (h.two.filter _) (fun q hq => ?_) (fun q hq => ?_)
    · obtain ⟨h1, h2⟩ := hdel q hq
      exact hpw (peer, o) hmem q h1 (fun e => h2 e.symm)
    · obtain ⟨h1, h2⟩ := hdel q hq
      exact hpw q h1 (peer, o) hmem h2
  · rcases hi with e | e | e | ⟨q, hq, e⟩
    · exact h.tab i (.inl e)
    · exact h.tab i (.inr (.inl e))
    · exact h.tab i (.inr (.inr (.inl e)))
    · rcases hput q hq with rfl | hq
      · exact h.tab i (.inr (.inr (.inr ⟨(peer, o), hmem, e⟩)))
      · exact h.tab i (.inr (.inr (.inr ⟨q, (hdel q hq).1, e⟩)))
/-- The same pointers: the same map. -/
theorem mpO_same {ks : List (Int × Ow)} {peer : Int} {o : Ow} {f : Nat → Bool} (hr : Rising ks) (hmem : (peer, o) ∈ ks) : mpO (putL ks peer ⟨o.s, o.g, f⟩) = mpO ks := by
  rw [← put_mpO]
  show putL (mpO ks) peer (.pointer (some ⟨o.s, 0, none⟩)) = mpO ks
  have hr2 : Rising (mpO ks) := by unfold Rising mpO; rw [List.pairwise_map]; exact hr
  have hm2 : (peer, Value.pointer (some ⟨o.s, 0, none⟩)) ∈ mpO ks := List.mem_map.2 ⟨_, hmem, rfl⟩
  generalize mpO ks = l at hr2 hm2
  clear hr hmem
  induction l with
  | nil => simp at hm2
  | cons q t ih =>
    obtain ⟨h1, h2⟩ := List.pairwise_cons.1 hr2
    by_cases e : q.1 = peer
    · have hq : q = (peer, Value.pointer (some ⟨o.s, 0, none⟩)) := by
        rcases List.mem_cons.1 hm2 with h | h
        · exact h.symm
        · have := h1 _ h
          simp only at this
          omega
      have hd : delL (q :: t) peer = t := by
        unfold delL
        rw [List.filter_cons, if_neg (by simp [e]), List.filter_eq_self]
        intro y hy
        have := h1 y hy
        simp
        omega
      unfold putL
      rw [hd, hq]
      rw [hq] at h1
      cases t with
      | nil => rfl
      | cons y t2 =>
        have := h1 y (List.mem_cons_self ..)
        simp only at this
        unfold insS
        rw [if_pos this]
    · have ht : (peer, Value.pointer (some ⟨o.s, 0, none⟩)) ∈ t := by
        rcases List.mem_cons.1 hm2 with h | h
        · exact absurd (by rw [← h]) e
        · exact h
      have hlt := h1 _ ht
      simp only at hlt
      have hd : delL (q :: t) peer = q :: delL t peer := by
        unfold delL
        rw [List.filter_cons, if_pos (by simpa using e)]
      have := ih h2 ht
      unfold putL at this ⊢
      rw [hd]
      show insS (peer, _) (q :: delL t peer) = q :: t
      unfold insS
      rw [if_neg (by simp only; omega), this]

theorem keys_mpO (ks : List (Int × Ow)) : keysL (mpO ks) = keysL ks := by
  unfold keysL mpO
  rw [List.map_map]
  rfl
set_option maxRecDepth 100000 in
set_option maxHeartbeats 1000000 in
theorem rarePeers (b M g n : Nat) (most : Int) (c : Nat → Int) (ks : List (Int × Ow)) (w : World) (h : BD w b M g n most c ks) (hlen : ks.length ≤ 1000) :
    Calls Tryd.prog 23 #[.pointer (some ⟨b, 0, none⟩)] w (IntsP (keysL ks) w) := by
  have c2 := h.head.cell 2
  have hk := Tryd.maps_Keys_38 (some M) w
  have hs := Tryd.slices_Sorted_keys_38 M _ (toD (mpO ks)) RV w h.map.owns (by rw [size_toD, mpO_len]; unfold maxLen; omega) (by rw [size_toD, mpO_len]; omega)
  have HK := Lib.hid hk
  have HS := Lib.hid hs
  have HR := Lib.hid h.map.rising
  clear h hk hs
  go_enter Tryd.func23, Tryd.ntmps23
  go_wp2_with fail
  refine HK.out.mono ?_; rintro e w1 ⟨rfl, rfl⟩
  go_wp2_with fail
  refine HS.out.mono ?_; rintro e w2 hq
  have hq2 := IntsP.of_sorted HR.out ((Mod.refl (fun _ => False) w).alloc _) hq
  obtain ⟨v, rfl, o, m⟩ := hq2
  rw [keys_mpO] at o
  have O := Lib.hid o
  have M2 := Lib.hid m
  clear hq o m
  go_wp2_with fail
  go_ret
  exact ⟨v, rfl, O.out, M2.out⟩
end Go.Proofs.YtfopglaagnbacaaDoor
