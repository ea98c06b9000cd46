/- Package conn: out, Fall; of TrailingZeros64's table: as it is laid. -/
import Derived.Test.YtfopglaagnbacaaDoorCoC
namespace Go.Proofs.YtfopglaagnbacaaDoor
open Go Go.RowKit

/-- What is handed back: a new set. -/
def OutB (n : Nat) (F : Nat → Bool) (w : World) (e : Ending) (w' : World) : Prop := ∃ z zg : Nat, e = .returned (.pointer (some ⟨z, 0, none⟩)) ∧ BSet w' z zg n F ∧ Mod (fun _ => False) w w' ∧ w.heap.size ≤ z ∧ w.heap.size ≤ zg
set_option maxRecDepth 100000 in
set_option maxHeartbeats 1000000 in
theorem connOut (y yg : Nat) (f : Nat → Bool) (s b M g t tM n : Nat) (pm mo ea pa : Int) (ks : List (Int × Ow)) (T : LT) (w : World) (h : SW w s b M g t tM n pm mo ea pa ks T) (hy : BSet w y yg n f) (hlt : T.length ≤ 256) (hti : ∀ q ∈ T, I64 q.1) (hkn : ∀ q ∈ T, 0 ≤ q.1 ∧ q.1 < (n : Int)) :
    Calls Tryd.prog 19 #[.pointer (some ⟨s, 0, none⟩), .pointer (some ⟨y, 0, none⟩)] w (OutB n (outF n f T) w) := by
  have c2 := h.at.2.2
  have HTB := Lib.hid h.tb
  have HY := Lib.hid hy
  have HTI := Lib.hid hti
  have HKN := Lib.hid hkn
  have HOF : Hid (outF n f ([] : LT) = fOr f f) := by
    show _ = _
    funext i
    rw [outF_nil n f i hy.out]
    simp [fOr]
  clear h hy hti hkn
  go_enter Tryd.func19, Tryd.ntmps19
  go_wp2_with fail
  refine (bitsOr y yg y yg n f f _ HY.out HY.out).mono ?_; rintro e w1 ⟨z, zg, rfl, h1, m1, l1, l2⟩
  rw [← HOF.out] at h1
  have c2' := m1.cell c2 (fun h => h)
  have HT1 := Lib.hid (HTB.out.new m1)
  have H1 := Lib.hid h1
  have M1 := Lib.hid m1
  have L1 : Hid (w.heap.size ≤ z ∧ w.heap.size ≤ zg) := ⟨l1, l2⟩
  clear c2 h1 m1 l1 l2 HTB HY
  go_wp2_with fail
  refine (Fl.flAll t tM mo ea pa T w1 HT1.out (by omega) HTI.out).mono ?_; rintro e w2 ⟨v, rfl, o2, m2⟩
  obtain ⟨a, cap, rfl, _, hel, _⟩ := o2.els
  have HA : Hid (∀ X, a = some X → w1.heap.size ≤ X.block ∧ X.block < w2.heap.size) := fun X e => by subst e; exact o2.blk X _ _ rfl
  have HE := Lib.hid hel
  have H2 := Lib.hid (H1.out.mod m2 (fun h => h) (fun h => h))
  have M2 := Lib.hid (M1.out.trans m2)
  have hlz : z < w1.heap.size ∧ zg < w1.heap.size := H1.out.lt
  have HLZ := Lib.hid hlz
  clear o2 m2 c2' hel hlz H1 M1
  go_wp2_with fail
  go_loopw [21] (fun i wr => ∃ k : Nat, i = .int .i64 k ∧ k ≤ T.length ∧ Hid (BSet wr z zg n (outF n f (T.take k))) ∧ Mod (· = zg) w2 wr) (fun i _ => T.length - (intOf i).toNat)
  case atStart => exact ⟨0, rfl, Nat.zero_le _, H2.out, Mod.refl _ _⟩
  case round =>
    obtain ⟨k, rfl, hk, hB, hm⟩ := hrel
    by_cases hlt' : (k : Int) < T.length
    · obtain ⟨⟨x, r⟩, hkr⟩ : ∃ q, T[k]? = some q := ⟨_, List.getElem?_eq_getElem (by omega)⟩
      obtain ⟨X, rfl, p0, p1, p2⟩ := Fl.rqEl HE.out (Nat.le_refl _) hkr
      have hX := HA.out X rfl
      have hXz : ∀ q, ¬ (X.add q).block = zg := fun q => by rw [Addr.add_block]; have := HLZ.out; omega
      have p0 := hm.cell p0 (hXz _); have p1 := hm.cell p1 (hXz _); have p2 := hm.cell p2 (hXz _)
      have hxr := HKN.out _ (List.mem_of_getElem? hkr)
      obtain ⟨j, rfl⟩ : ∃ j : Nat, x = (j : Int) := ⟨x.toNat, by have := hxr.1; simp only at this; omega⟩
      have hjn : j < n := by have := hxr.2; simp only at this; omega
      have HST : Hid (outF n f (T.take (k + 1)) = fil (outF n f (T.take k)) j (j + 1) true) := by
        show _ = _
        rw [List.take_add_one, hkr]
        exact outF_snoc n f _ j r hjn
      have HMR := Lib.hid hm
      have hk1 : T.length - (k + 1) < T.length - k := by omega
      clear hkr hxr hX hXz hm
      go_wp2_with fail
      refine (bitsPut z zg n _ j true _ (hB.out.mod ((Mod.refl (fun _ => False) wr).alloc _) (fun h => h) (fun h => h)) hjn).mono ?_; rintro e w4 ⟨rfl, h4, m4⟩
      rw [← HST.out] at h4
      have H4 := Lib.hid h4
      have M4 := Lib.hid ((HMR.out.alloc (.cells #[.int .i64 r.p, .int .i64 j, .int .i64 r.t] 45)).trans m4)
      clear h4 m4 p0 p1 p2
      go_wp2_with fail
      go_roundw
      case rel => exact ⟨k + 1, by go_num, by omega, H4.out, M4.out⟩
      case measure => simp [intOf]; omega
    · have hkT : T.take k = T := List.take_of_length_le (by omega)
      rw [hkT] at hB
      have HM := Lib.hid hm
      clear hm hkT
      go_wp2_with fail
      go_ret
      have hl := L1.out
      exact ⟨z, zg, rfl, hB.out, M2.out.new HM.out (fun i e => by rw [e]; exact hl.2), hl.1, hl.2⟩

/-- What Fall asks for, from one place on. -/
def fallR (mo ea now : Int) (F : Nat → Bool) : Nat → Nat → LT → LT → LT × LT
  | 0, _, T, l => (T, l)
  | m + 1, i, T, l => if F i = true then fallR mo ea now F m (i + 1) T l else if Fl.askE mo ea T 0 i now = 0 then fallR mo ea now F m (i + 1) (putL T i ⟨0, now⟩) (l ++ [((i : Int), ⟨0, now⟩)]) else (T, l)
theorem fallR_nx (mo ea now : Int) (F : Nat → Bool) (n : Nat) (T l : LT) : ∀ (m k : Nat), m = n - k → (nx F false n k = -1 ∧ fallR mo ea now F m k T l = (T, l)) ∨ ∃ i : Nat, nx F false n k = i ∧ k ≤ i ∧ i < n ∧ F i = false ∧ fallR mo ea now F m k T l = fallR mo ea now F (n - i) i T l := by
  intro m
  induction m with
  | zero =>
    intro k hk
    refine .inl ⟨?_, rfl⟩
    unfold nx
    rw [← hk]
    rfl
  | succ m ih =>
    intro k hk
    by_cases hF : F k = true
    · have e : fallR mo ea now F (m + 1) k T l = fallR mo ea now F m (k + 1) T l := by
        show (if F k = true then _ else _) = _
        rw [if_pos hF]
      have e2 : nx F false n k = nx F false n (k + 1) := by
        unfold nx
        rw [show n - k = (n - (k + 1)) + 1 by omega]
        show (if F k = false then _ else _) = _
        rw [if_neg (by rw [hF]; decide)]
      rw [e, e2]
      rcases ih (k + 1) (by omega) with h | ⟨i, h1, h2, h3, h4, h5⟩
      · exact .inl h
      · exact .inr ⟨i, h1, by omega, h3, h4, h5⟩
    · have hF' : F k = false := by simpa using hF
      refine .inr ⟨k, nx_yes hF' (Nat.le_refl _) (by omega) (fun j h1 h2 => by omega), Nat.le_refl _, by omega, hF', ?_⟩
      rw [hk]
theorem fallR_step {mo ea now : Int} {F : Nat → Bool} {n i : Nat} {T l : LT} (h1 : i < n) (h2 : F i = false) : fallR mo ea now F (n - i) i T l = if Fl.askE mo ea T 0 i now = 0 then fallR mo ea now F (n - (i + 1)) (i + 1) (putL T i ⟨0, now⟩) (l ++ [((i : Int), ⟨0, now⟩)]) else (T, l) := by
  rw [show n - i = (n - (i + 1)) + 1 by omega]
  show (if F i = true then _ else _) = _
  rw [if_neg (by rw [h2]; decide)]
/-- What Fall does: the table, the requests, the error. -/
def fallA (n : Nat) (mo ea now : Int) (x : Option (Nat × (Nat → Bool))) (T : LT) : LT × LT × Int :=
  if rightA n now x = true then ((fallR mo ea now (outF n (x.getD (0, fun _ => false)).2 T) n 0 T []).1, (fallR mo ea now (outF n (x.getD (0, fun _ => false)).2 T) n 0 T []).2, 0) else (T, [], 1)
theorem fallA_some {n : Nat} {mo ea now : Int} {f : Nat → Bool} {T : LT} (hq : 0 ≤ now ∧ now ≤ 1099511627776) : fallA n mo ea now (some (n, f)) T = ((fallR mo ea now (outF n f T) n 0 T []).1, (fallR mo ea now (outF n f T) n 0 T []).2, 0) := by
  unfold fallA
  rw [if_pos (by unfold rightA; simp [hq])]
  rfl
theorem rightA_some {n : Nat} {now : Int} {x : Option (Nat × (Nat → Bool))} (h : rightA n now x = true) : (0 ≤ now ∧ now ≤ 1099511627776) ∧ ∃ f, x = some (n, f) := by
  unfold rightA at h
  rw [Bool.and_eq_true] at h
  obtain ⟨h1, h2⟩ := h
  refine ⟨of_decide_eq_true h1, ?_⟩
  cases x with
  | none => cases h2
  | some q => obtain ⟨m, f⟩ := q; exact ⟨f, by rw [of_decide_eq_true h2]⟩
/-- The table of the origin's requests stays as it may be. -/
theorem Fl.Okk.put0 {mo ea : Int} {T : LT} (h : Fl.Okk mo ea T) {p k now : Int} (he : Fl.askE mo ea T p k now = 0) : Fl.Okk mo ea (putL T k ⟨p, now⟩) := by
  have := h.ask p k now
  unfold Fl.askK at this
  rwa [if_pos he] at this

end Go.Proofs.YtfopglaagnbacaaDoor
