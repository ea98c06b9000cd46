/- Package rarest: the board, New, copied, count; of TrailingZeros64's table: as it is laid. -/
import Derived.Test.YtfopglaagnbacaaDoorJoin
import Derived.Test.YtfopglaagnbacaaDoorRegO
import Derived.Test.YtfopglaagnbacaaDoorMapL
import Derived.Test.YtfopglaagnbacaaDoorBitsS
import Derived.Test.YtfopglaagnbacaaDoorStage
import Derived.Test.YtfopglaagnbacaaDoorDrawA
namespace Go.Proofs.YtfopglaagnbacaaDoor
open Go Go.RowKit

theorem infoInt : (Tryd.prog.info? 3).map (fun i => (i.zero, i.size, i.bytes)) = some (some (.int .i64 0), 1, 8) := by kernel_rfl
/-- How many have each piece, as the cells of block g. -/
def Cn (w : World) (g n : Nat) (c : Nat → Int) : Prop := ∃ cs : Array Value, Blk w g cs 3 ∧ ∀ k, k < n → cs[k]? = some (.int .i64 (c k))
theorem Cn.lt {w : World} {g n : Nat} {c : Nat → Int} (h : Cn w g n c) : g < w.heap.size := by obtain ⟨cs, h1, _⟩ := h; exact h1.lt
theorem Cn.mod {S : Nat → Prop} {w w' : World} {g n : Nat} {c : Nat → Int} (h : Cn w g n c) (hm : Mod S w w') (hg : ¬ S g) : Cn w' g n c := by
  obtain ⟨cs, h1, h2⟩ := h
  exact ⟨cs, h1.mod hm hg, h2⟩
theorem Cn.at {w : World} {g n : Nat} {c : Nat → Int} (h : Cn w g n c) {k : Nat} (hk : k < n) : w.cell? ⟨g, k, none⟩ = some (.int .i64 (c k)) ∧ w.frozen? ⟨g, k, none⟩ = false := by
  obtain ⟨cs, h1, h2⟩ := h
  exact ⟨by rw [h1.cell]; exact h2 k hk, h1.frozen k⟩
theorem Cn.put {w : World} {g n : Nat} {c c' : Nat → Int} (h : Cn w g n c) (q : Nat) (v : Int) (hv : v = c' q) (hne : ∀ k, k < n → k ≠ q → c' k = c k) : Cn (w.setCell ⟨g, q, none⟩ (.int .i64 v)) g n c' := by
  obtain ⟨cs, h1, h2⟩ := h
  refine ⟨_, h1.set q _, fun k hk => ?_⟩
  have h0 := h2 k hk
  have h3 := (Array.getElem?_eq_some_iff.1 h0).1
  by_cases e : k = q
  · subst e
    rw [Array.getElem?_setIfInBounds_self_of_lt h3, hv]
  · rw [Array.getElem?_setIfInBounds_ne (Ne.symm e), h0, hne k hk e]
theorem Cn.ext {w : World} {g n : Nat} {c c' : Nat → Int} (h : Cn w g n c) (e : ∀ k, k < n → c' k = c k) : Cn w g n c' := by
  obtain ⟨cs, h1, h2⟩ := h
  exact ⟨cs, h1, fun k hk => by rw [h2 k hk, e k hk]⟩

/-- A set of one's own: its blocks, its places. -/
structure Ow where
  s : Nat
  g : Nat
  f : Nat → Bool
def mpO (ks : List (Int × Ow)) : List (Int × Value) := ks.map fun p => (p.1, .pointer (some ⟨p.2.s, 0, none⟩))
/-- The blocks of a board. -/
def BDb (b M g : Nat) (ks : List (Int × Ow)) (i : Nat) : Prop := i = b ∨ i = M ∨ i = g ∨ ∃ q ∈ ks, i = q.2.s ∨ i = q.2.g
/-- A board. -/
structure BD (w : World) (b M g n : Nat) (most : Int) (c : Nat → Int) (ks : List (Int × Ow)) : Prop where
  head : Blk w b #[.int .i64 n, .int .i64 most, .map (some M), .slice (some ⟨g, 0, none⟩) n n] 75
  map : IMap Tryd.prog 3 w M (mpO ks)
  cn : Cn w g n c
  sets : ∀ q ∈ ks, BSet w q.2.s q.2.g n q.2.f
  ne : b ≠ M ∧ b ≠ g ∧ M ≠ g
  off : ∀ q ∈ ks, q.2.s ≠ b ∧ q.2.s ≠ M ∧ q.2.s ≠ g ∧ q.2.g ≠ b ∧ q.2.g ≠ M ∧ q.2.g ≠ g
  two : ks.Pairwise fun p q => p.2.s ≠ q.2.s ∧ p.2.s ≠ q.2.g ∧ p.2.g ≠ q.2.s ∧ p.2.g ≠ q.2.g
  tab : ∀ i, BDb b M g ks i → gTab < i
theorem BD.mod {S : Nat → Prop} {w w' : World} {b M g n : Nat} {most : Int} {c : Nat → Int} {ks : List (Int × Ow)} (h : BD w b M g n most c ks) (hm : Mod S w w') (hS : ∀ i, BDb b M g ks i → ¬ S i) : BD w' b M g n most c ks :=
  ⟨h.head.mod hm (hS _ (.inl rfl)), h.map.mod hm (hS _ (.inr (.inl rfl))), h.cn.mod hm (hS _ (.inr (.inr (.inl rfl)))), fun q hq => (h.sets q hq).mod hm (hS _ (.inr (.inr (.inr ⟨q, hq, .inl rfl⟩)))) (hS _ (.inr (.inr (.inr ⟨q, hq, .inr rfl⟩)))), h.ne, h.off, h.two, h.tab⟩
theorem BD.new {w w' : World} {b M g n : Nat} {most : Int} {c : Nat → Int} {ks : List (Int × Ow)} (h : BD w b M g n most c ks) (hm : Mod (fun _ => False) w w') : BD w' b M g n most c ks := h.mod hm fun _ _ h => h
theorem BD.drewN {w : World} {b M g n : Nat} {most : Int} {c : Nat → Int} {ks : List (Int × Ow)} (h : BD w b M g n most c ks) (k : Nat) : BD (w.drewN k) b M g n most c ks := h.new ((Mod.refl _ w).drewN k)
theorem BD.lt {w : World} {b M g n : Nat} {most : Int} {c : Nat → Int} {ks : List (Int × Ow)} (h : BD w b M g n most c ks) {i : Nat} (hi : BDb b M g ks i) : i < w.heap.size := by
  rcases hi with rfl | rfl | rfl | ⟨q, hq, rfl | rfl⟩
  · exact h.head.lt
  · exact h.map.lt
  · exact h.cn.lt
  · exact (h.sets q hq).lt.1
  · exact (h.sets q hq).lt.2

theorem lk_mpO (ks : List (Int × Ow)) (id : Int) : lkL (mpO ks) id = (lkL ks id).map fun o => .pointer (some ⟨o.s, 0, none⟩) := by
  unfold lkL mpO
  rw [List.find?_map]
  show Option.map _ (Option.map _ (ks.find? fun p => p.1 == id)) = _
  cases ks.find? fun p => p.1 == id <;> rfl
theorem del_mpO (ks : List (Int × Ow)) (id : Int) : delL (mpO ks) id = mpO (delL ks id) := by
  unfold delL mpO
  rw [List.filter_map]
  rfl
theorem ins_mpO (id : Int) (o : Ow) : ∀ ks : List (Int × Ow), insS (id, .pointer (some ⟨o.s, 0, none⟩)) (mpO ks) = mpO (insS (id, o) ks)
  | [] => rfl
  | q :: t => by
    show insS (id, _) ((q.1, _) :: mpO t) = mpO (insS (id, o) (q :: t))
    unfold insS
    by_cases h : id < q.1
    · rw [if_pos h, if_pos h]; rfl
    · rw [if_neg h, if_neg h, ins_mpO id o t]; rfl
theorem put_mpO (ks : List (Int × Ow)) (id : Int) (o : Ow) : putL (mpO ks) id (.pointer (some ⟨o.s, 0, none⟩)) = mpO (putL ks id o) := by
  unfold putL
  rw [del_mpO, ins_mpO]
theorem mpO_len (ks : List (Int × Ow)) : (mpO ks).length = ks.length := by simp [mpO]
theorem zeroPtr (w : World) : (zeroValue 28).run Tryd.prog w = .ok (.pointer none) w := by kernel_rfl

/-- A board of so many pieces. -/
def BoardOk (n most : Int) : Prop := 1 ≤ n ∧ n ≤ 1024 ∧ 1 ≤ most ∧ most ≤ 64
instance (a b : Int) : Decidable (BoardOk a b) := by unfold BoardOk; infer_instance
set_option maxRecDepth 100000 in
set_option maxHeartbeats 1000000 in
theorem rareNew (n : Nat) (most : Int) (w : World) (h : BoardOk n most) (hT : TabW w) :
    Calls Tryd.prog 14 #[.int .i64 n, .int .i64 most] w fun e w' => e = .returned (.tuple #[.pointer (some ⟨w.heap.size + 2, 0, none⟩), .int .i64 0]) ∧ BD w' (w.heap.size + 2) w.heap.size (w.heap.size + 1) n most (fun _ => 0) [] ∧ Mod (fun _ => False) w w' ∧ w'.heap.size = w.heap.size + 3 := by
  obtain ⟨i0, hi, hz0, hz1, hz2⟩ := info_parts infoInt
  have hmk := run_makeSlice (P := Tryd.prog) (w.alloc (.map #[] 0)) 31 3 i0 (.int .i64 0) Tryd.underlying31 hi hz0 .i64 .i64 (n : Int) (n : Int) (by omega) (Int.le_refl _) (by rw [hz1]; unfold BoardOk at h; omega) (by rw [hz2]; unfold BoardOk at h; omega) (by unfold BoardOk at h; omega)
  rw [hz1] at hmk
  rw [Int.toNat_natCast] at hmk
  obtain ⟨h1, h2, h3, h4⟩ := h
  have g1 : ¬ (n : Int) < 1 := by omega
  have g2 : ¬ (1024 : Int) < n := by omega
  have g3 : ¬ most < 1 := by omega
  have g4 : ¬ 64 < most := by omega
  have hmm := @run_makeMap Tryd.prog
  have hg := hT.lt
  clear hi hz0 hz1 hz2 hT
  go_enter Tryd.func14, Tryd.ntmps14
  go_wp2_with fail
  go_ret2
  refine ⟨rfl, ⟨?_, ((IMap.made Tryd.prog 3 w).alloc _).alloc _, ?_, by simp, by omega, by simp, List.Pairwise.nil, by rintro i (rfl | rfl | rfl | ⟨q, hq, _⟩) <;> first | omega | (simp at hq)⟩, (((Mod.refl _ w).alloc _).alloc _).alloc _, by simp⟩
  · have := Blk.new ((w.alloc (.map #[] 0)).alloc (.cells (madeCells #[Value.int .i64 0] n) 3)) #[.int .i64 n, .int .i64 most, .map (some w.heap.size), .slice (some ⟨w.heap.size + 1, 0, none⟩) n n] 75
    simpa using this
  · refine ⟨madeCells #[Value.int .i64 0] n, ?_, fun k hk => by rw [made_get _ _ _ rfl hk]; rfl⟩
    have := (Blk.new (w.alloc (.map #[] 0)) (madeCells #[Value.int .i64 0] n) 3).alloc (.cells #[.int .i64 n, .int .i64 most, .map (some w.heap.size), .slice (some ⟨w.heap.size + 1, 0, none⟩) n n] 75)
    simpa using this
set_option maxRecDepth 100000 in
set_option maxHeartbeats 1000000 in
theorem rareNewBad (n most : Int) (w : World) (h : ¬ BoardOk n most) :
    Calls Tryd.prog 14 #[.int .i64 n, .int .i64 most] w fun e w' => e = .returned (.tuple #[.pointer none, .int .i64 1]) ∧ w = w' := by
  have HB := Lib.hid h
  clear h
  go_enter Tryd.func14, Tryd.ntmps14
  go_wp2_with fail
  all_goals first | (go_ret2; exact ⟨rfl, rfl⟩) | (exfalso; apply HB.out; unfold BoardOk; omega)

theorem fOr_self (f : Nat → Bool) : fOr f f = f := by funext x; simp [fOr]
theorem rareCopied (s sg n : Nat) (f : Nat → Bool) (w : World) (h : BSet w s sg n f) :
    Calls Tryd.prog 30 #[.pointer (some ⟨s, 0, none⟩)] w fun e w' => ∃ b g : Nat, e = .returned (.pointer (some ⟨b, 0, none⟩)) ∧ BSet w' b g n f ∧ Mod (fun _ => False) w w' ∧ w.heap.size ≤ b ∧ w.heap.size ≤ g := by
  have HO := Lib.hid (bitsOr s sg s sg n f f w h h)
  rw [fOr_self] at HO
  clear h
  go_enter Tryd.func30, Tryd.ntmps30
  go_wp2_with fail
  refine HO.out.mono ?_; rintro e w' ⟨x, y, rfl, h1, h2, h3, h4⟩
  go_wp2_with fail
  go_ret
  exact ⟨x, y, rfl, h1, h2, h3, h4⟩

/-- The counts behind those below k. -/
def cnK (c : Nat → Int) (f : Nat → Bool) (d : Int) (k : Nat) : Nat → Int := fun j => if j < k ∧ f j = true then c j + d else c j
theorem cnK_zero (c : Nat → Int) (f : Nat → Bool) (d : Int) : cnK c f d 0 = c := by funext j; simp [cnK]
def nxM (n : Nat) (v : Value) : Nat := if intOf v < 0 then 0 else n - (intOf v).toNat
theorem nxM_neg (n : Nat) : nxM n (.int .i64 (-1)) = 0 := by simp [nxM, intOf]
theorem nxM_nat (n i : Nat) : nxM n (.int .i64 (i : Int)) = n - i := by
  unfold nxM
  rw [show intOf (.int .i64 (i : Int)) = (i : Int) from rfl, if_neg (by omega)]
  rfl
theorem nxM_less {f : Nat → Bool} {n i : Nat} (h : i < n) : nxM n (.int .i64 (nx f true n (i + 1))) < nxM n (.int .i64 (i : Int)) := by
  rw [nxM_nat]
  rcases nx_spec f true n (i + 1) with ⟨hx, _⟩ | ⟨j, hx, h1, h2, _⟩
  · rw [hx, nxM_neg]; omega
  · rw [hx, nxM_nat]; omega
set_option maxRecDepth 100000 in
set_option maxHeartbeats 1000000 in
theorem rareCount (b g n s sg : Nat) (d : Int) (c : Nat → Int) (f : Nat → Bool) (w : World) (hb : w.cell? ⟨b, 3, none⟩ = some (.slice (some ⟨g, 0, none⟩) n n)) (hc : Cn w g n c) (hs : BSet w s sg n f) (hT : TabW w) (hd : -1 ≤ d ∧ d ≤ 1) (hr : ∀ k, -1000 ≤ c k ∧ c k ≤ 1000)
    (hn : n ≤ 1024) (hne : g ≠ b ∧ g ≠ s ∧ g ≠ sg ∧ g ≠ gTab) :
    Calls Tryd.prog 29 #[.pointer (some ⟨b, 0, none⟩), .pointer (some ⟨s, 0, none⟩), .int .i64 d] w fun e w' => e = .returned (.tuple #[]) ∧ Cn w' g n (cnK c f d n) ∧ Mod (· = g) w w' := by
  have HN0 := Lib.hid (bitsNext s sg n f 0 true w hs hT)
  have HC := Lib.hid hc
  have HS := Lib.hid hs
  have HT := Lib.hid hT
  have HR := Lib.hid hr
  have HNE := Lib.hid hne
  have HBB := Lib.hid hb
  clear hc hs hT hr hne hb
  go_enter Tryd.func29, Tryd.ntmps29
  go_wp2_with fail
  refine HN0.out.mono ?_; rintro e w' ⟨rfl, rfl⟩
  go_wp2_with fail
  go_loopw [6] (fun v wr => ∃ k : Nat, v = .int .i64 (nx f true n k) ∧ k ≤ n ∧ Hid (Cn wr g n (cnK c f d k)) ∧ Hid (Mod (· = g) w wr)) (fun v _ => nxM n v)
  case atStart => exact ⟨0, rfl, Nat.zero_le _, by rw [cnK_zero]; exact HC, Mod.refl _ _⟩
  case round =>
    obtain ⟨k, rfl, hk, hcn, hm⟩ := hrel
    rcases nx_spec f true n k with ⟨hx, hno⟩ | ⟨i, hx, hki, hin, hfi, hno⟩
    · have HF := Lib.hid (hcn.out.ext (c' := cnK c f d n) fun j hj => by
        unfold cnK
        by_cases h1 : j < k
        · simp [h1, hj]
        · have := hno j (by omega) hj
          rw [if_neg (fun h => this h.2), if_neg (fun h => h1 h.1)])
      rw [hx]
      clear hx hno hcn
      go_wp2_with fail
      go_end0
      exact ⟨rfl, HF.out, hm.out⟩
    · have hci := (hcn.out.at hin)
      have hce : cnK c f d k i = c i := by unfold cnK; rw [if_neg (by omega)]
      rw [hce] at hci
      obtain ⟨c1, f1⟩ := hci
      have hr := HR.out i
      have hw : IntKind.i64.wrap (c i + d) = c i + d := by unfold IntKind.wrap; simp [IntKind.bits, IntKind.signed]; omega
      have hb := hm.out.cell HBB.out (by have := HNE.out; show ¬ b = g; omega)
      have HC2 := Lib.hid (hcn.out.put (c' := cnK c f d (i + 1)) i (c i + d) (by unfold cnK; rw [if_pos ⟨by omega, hfi⟩]) (fun j hj hji => by
        unfold cnK
        by_cases h1 : j < k
        · have h2 : j < i + 1 := by omega
          simp [h1, h2]
        · by_cases h2 : j < i
          · have := hno j (by omega) h2
            rw [if_neg (fun h => this h.2), if_neg (fun h => this h.2)]
          · rw [if_neg (by omega), if_neg (by omega)]))
      have HM2 := Lib.hid (hm.out.set1 i (.int .i64 (c i + d)))
      have hin' : (i : Int) < n := by omega
      have hw2 : IntKind.i64.wrap ((i : Int) + 1) = (i : Int) + 1 := by unfold IntKind.wrap; simp [IntKind.bits, IntKind.signed]; omega
      rw [hx]
      have HIN := Lib.hid (show k ≤ i ∧ i < n from ⟨hki, hin⟩)
      generalize c i = ci at *
      clear hx hno hcn hce hr hfi
      go_wp2_with fail
      have HN1 := Lib.hid (bitsNext s sg n f ((i : Int) + 1) true (wr.setCell ⟨g, i, none⟩ (.int .i64 (ci + d))) (HS.out.mod HM2.out (by have := HNE.out; omega) (by have := HNE.out; omega)) (HT.out.mod HM2.out (by have := HNE.out; omega)))
      rw [show ((i : Int) + 1).toNat = i + 1 by omega] at HN1
      refine HN1.out.mono ?_; rintro e w' ⟨rfl, rfl⟩
      go_wp2_with fail
      exact ⟨⟨i + 1, rfl, by have := HIN.out; omega, HC2, HM2⟩, nxM_less HIN.out.2⟩
end Go.Proofs.YtfopglaagnbacaaDoor
