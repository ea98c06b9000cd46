/- Package member: first: the one that goes first, whatever the order in which the map gives its records; condition: something is known. -/
import Derived.Test.YtagiodagbfahpaaMbMin
import Derived.Laws.EntriesVeiled
namespace Go.Proofs.Ytagiodagbfahpaa
open Go Go.RowKit

/-- Does one go ahead of another one? -/
def lessF (x y : Int × Rc) : Prop := y.2.u < x.2.u ∨ (x.2.u = y.2.u ∧ (x.2.b < y.2.b ∨ x.2.b = y.2.b ∧ y.1 < x.1))
instance (x y : Int × Rc) : Decidable (lessF x y) := by unfold lessF; infer_instance
theorem cmp_neg (a b : Int) : Lib.compareInt a b < 0 ↔ a < b := by unfold Lib.compareInt; split <;> (try split) <;> omega
theorem cmp_zero (a b : Int) : Lib.compareInt a b = 0 ↔ a = b := by unfold Lib.compareInt; split <;> (try split) <;> omega
theorem or_neg1 (a : Int) : orI [a] < 0 ↔ a < 0 := by
  unfold orI
  by_cases h : a = 0 <;> simp [h]
theorem or_neg (a : Int) (l : List Int) : orI (a :: l) < 0 ↔ a < 0 ∨ a = 0 ∧ orI l < 0 := by
  unfold orI
  by_cases h : a = 0
  · simp [h]
  · simp [h]
theorem cmpF_neg (x y : Int × Rc) (_ : 0 ≤ x.2.u) (_ : 0 ≤ y.2.u) : cmpF x y < 0 ↔ lessF x y := by
  unfold cmpF lessF
  rw [or_neg, or_neg, or_neg1, cmp_neg, cmp_zero, cmp_neg, cmp_zero, cmp_neg]
  omega
theorem lessF_trans {x y z : Int × Rc} (_ : 0 ≤ x.2.u) (_ : 0 ≤ y.2.u) (_ : 0 ≤ z.2.u) (h1 : lessF x y) (h2 : lessF y z) : lessF x z := by unfold lessF at *; omega
theorem lessF_total {x y : Int × Rc} (_ : 0 ≤ x.2.u) (_ : 0 ≤ y.2.u) (h1 : ¬ lessF x y) (h2 : ¬ lessF y x) : x.1 = y.1 := by unfold lessF at *; omega
theorem lessF_irr {x : Int × Rc} (_ : 0 ≤ x.2.u) : ¬ lessF x x := by unfold lessF; omega

/-- The first of a list, by that order. -/
def lowF (m : Int × Rc) (l : List (Int × Rc)) : Int × Rc := l.foldl (fun m x => if lessF x m then x else m) m
theorem lowF_snoc (m : Int × Rc) (l : List (Int × Rc)) (x : Int × Rc) : lowF m (l ++ [x]) = if lessF x (lowF m l) then x else lowF m l := by unfold lowF; rw [List.foldl_append]; rfl
def OkU (l : List (Int × Rc)) : Prop := ∀ q ∈ l, 0 ≤ q.2.u
theorem low_min : ∀ (l : List (Int × Rc)) (m : Int × Rc), OkU (m :: l) → minF m l = lowF m l
  | [], _, _ => rfl
  | x :: l, m, h => by
    have hx := h x (by simp)
    have hm := h m (by simp)
    unfold minF lowF
    rw [List.foldl_cons, List.foldl_cons]
    by_cases hl : lessF x m
    · rw [if_pos hl, if_pos ((cmpF_neg x m hx hm).2 hl)]
      exact low_min l x fun q hq => h q (by simp at hq ⊢; rcases hq with e | e <;> simp [e])
    · rw [if_neg hl, if_neg (fun e => hl ((cmpF_neg x m hx hm).1 e))]
      exact low_min l m fun q hq => h q (by simp at hq ⊢; rcases hq with e | e <;> simp [e])
theorem low_is : ∀ (l : List (Int × Rc)) (m : Int × Rc), OkU (m :: l) → lowF m l ∈ m :: l ∧ ∀ y ∈ m :: l, ¬ lessF y (lowF m l)
  | [], m, h => ⟨by simp [lowF], fun y hy => by simp at hy; subst hy; exact lessF_irr (h y (by simp))⟩
  | x :: l, m, h => by
    have hx := h x (by simp)
    have hm := h m (by simp)
    have e : lowF m (x :: l) = lowF (if lessF x m then x else m) l := rfl
    rw [e]
    by_cases hl : lessF x m
    · rw [if_pos hl]
      have hO : OkU (x :: l) := fun q hq => h q (by simp at hq ⊢; rcases hq with e | e <;> simp [e])
      obtain ⟨h1, h2⟩ := low_is l x hO
      refine ⟨List.mem_cons_of_mem _ h1, fun y hy => ?_⟩
      rcases List.mem_cons.1 hy with rfl | hy
      · exact fun hc => h2 x (by simp) (lessF_trans hx hm (hO _ h1) hl hc)
      · exact h2 y hy
    · rw [if_neg hl]
      have hO : OkU (m :: l) := fun q hq => h q (by simp at hq ⊢; rcases hq with e | e <;> simp [e])
      obtain ⟨h1, h2⟩ := low_is l m hO
      refine ⟨by simp at h1 ⊢; rcases h1 with e | e <;> simp [e], fun y hy => ?_⟩
      simp at hy
      rcases hy with rfl | rfl | hy
      · exact h2 _ (by simp)
      · intro hc
        by_cases hmm : lessF m (lowF m l)
        · exact h2 m (by simp) hmm
        · -- y < low ≤ m
          by_cases hlm : lessF (lowF m l) m
          · exact hl (lessF_trans hx (hO _ h1) hm hc hlm)
          · have := lessF_total hm (hO _ h1) hmm hlm
            apply hl
            unfold lessF at *
            have := hO _ h1
            omega
      · exact h2 y (by simp [hy])
theorem low_perm {q k : Int × Rc} {t s : List (Int × Rc)} (hp : (q :: t).Perm (k :: s)) (hr : Rising (k :: s)) (hu : OkU (k :: s)) : lowF q t = lowF k s := by
  have hu' : OkU (q :: t) := fun x hx => hu x (hp.mem_iff.1 hx)
  obtain ⟨a1, a2⟩ := low_is t q hu'
  obtain ⟨b1, b2⟩ := low_is s k hu
  have a1' := hp.mem_iff.1 a1
  exact mem_eq hr a1' b1 (lessF_total (hu _ a1') (hu _ b1) (b2 _ a1') (a2 _ (hp.mem_iff.2 b1)))
/-- Who goes first. -/
def firstK : List (Int × Rc) → Int
  | [] => 0
  | k :: s => (lowF k s).1

/-- .. without the one that goes first, if there are too many. -/
def cutX (most : Int) (ks : List (Int × Rc)) : List (Int × Rc) := if most < (ks.length : Int) then delL ks (firstK ks) else ks

set_option maxRecDepth 100000 in
set_option maxHeartbeats 2000000 in
theorem memFirst (b M : Nat) (S : Int × Rc) (most : Int) (ks : List (Int × Rc)) (w : World) (h : VW w b M S most ks) (hlen : ks.length ≤ 1000) (hne : ks ≠ []) (hu : OkU ks) :
    Calls Try.prog 28 #[.pointer (some ⟨b, 0, none⟩)] w fun e w' => e = .returned (.int .i64 (firstK ks)) ∧ Mod (fun _ => False) w w' := by
  have c3 := h.head.cell 5
  have HA := Lib.hid h
  have HRI := Lib.hid (rising_mp.1 h.map.rising)
  have HL := Lib.hid hlen
  have HN := Lib.hid hne
  have HU := Lib.hid hu
  clear h hlen hne hu
  go_enter Try.func28, Try.ntmps28
  go_wp2_with fail
  refine (valsCall (some M) w).mono ?_; rintro e w2 ⟨rfl, rfl⟩
  have mb := (Mod.refl (fun _ => False) w).alloc (.cells #[.map (some M)] 64)
  have HCV := Lib.hid (collectVals w.heap.size M ks (w.alloc (.cells #[.map (some M)] 64)) (by simp) ((Blk.new w _ _).cell 0) (HA.out.new mb).map HL.out)
  go_wp2_with fail
  refine HCV.out.mono ?_; rintro e w3 ⟨v, ss, rfl, hp, ho, hb⟩
  have M3 := Lib.hid (mb.trans (Mod.of_below hb))
  obtain ⟨a, cap, rfl, _, he, _⟩ := ho.els
  have HE := Lib.hid he
  have HP := Lib.hid hp
  clear he hp ho hb mb
  obtain ⟨k0, s, rfl⟩ : ∃ k0 s, ks = k0 :: s := List.exists_cons_of_ne_nil HN.out
  obtain ⟨q0, t, rfl⟩ : ∃ q0 t, ss = q0 :: t := List.exists_cons_of_ne_nil fun e => by
    have := HP.out; rw [e] at this; simpa using this.length_eq
  have hml : lowF q0 t = lowF k0 s := low_perm HP.out HRI.out HU.out
  have hmi : minF q0 t = lowF k0 s := (low_min t q0 fun x hx => HU.out x (HP.out.mem_iff.1 hx)).trans hml
  have HMI := Lib.hid hmi
  have htl : t.length ≤ 1000 := by
    have h1 := HP.out.length_eq
    have h2 := HL.out
    simp at h1 h2
    omega
  obtain ⟨X, rfl⟩ : ∃ X, a = some X := by
    obtain ⟨X, h, _⟩ := HE.out 0 (by simp)
    exact ⟨X, h⟩
  rw [List.length_cons] at HE
  have HM := Lib.hid (minFunc X cap q0 t w3 HE.out htl)
  clear hml hmi htl
  unfold rcv at HM
  go_wp2_with fail
  refine HM.out.mono ?_; rintro e w4 ⟨rfl, m4⟩
  rw [HMI.out]
  go_wp2_with fail
  go_ret
  exact ⟨rfl, M3.out.trans m4⟩
end Go.Proofs.Ytagiodagbfahpaa
