/- Package bits: And, Or, Less; the reference's Join; no condition. -/
import Derived.Test.YtfopglaagnbacaaDoorBitsN
import Derived.Test.YtfopglaagnbacaaDoorBitsH
import Derived.Test.YtfopglaagnbacaaDoorReg
namespace Go.Proofs.YtfopglaagnbacaaDoor
open Go Go.RowKit Go.IntWalk

def fAnd (f g : Nat → Bool) : Nat → Bool := fun x => f x && g x
def fOr (f g : Nat → Bool) : Nat → Bool := fun x => f x || g x
def fLess (f g : Nat → Bool) : Nat → Bool := fun x => f x && !g x
theorem wd_and (f g : Nat → Bool) (k : Nat) : bits .and .u64 (wd f k : Int) (wd g k : Int) = (wd (fAnd f g) k : Int) := by
  rw [bits_and_u64_nat _ _ (wd_lt _ _) (wd_lt _ _)]
  congr 1
  apply Nat.eq_of_testBit_eq
  intro i
  rw [Nat.testBit_and, testBit_wd, testBit_wd, testBit_wd, fAnd]
  by_cases hi : i < 64 <;> simp [hi]
theorem wd_or (f g : Nat → Bool) (k : Nat) : bits .or .u64 (wd f k : Int) (wd g k : Int) = (wd (fOr f g) k : Int) := by
  rw [bits_or_u64_nat _ _ (wd_lt _ _) (wd_lt _ _)]
  congr 1
  apply Nat.eq_of_testBit_eq
  intro i
  rw [Nat.testBit_or, testBit_wd, testBit_wd, testBit_wd, fOr]
  by_cases hi : i < 64 <;> simp [hi]
theorem wd_less (f g : Nat → Bool) (k : Nat) : bits .andNot .u64 (wd f k : Int) (wd g k : Int) = (wd (fLess f g) k : Int) := by
  rw [bits_andNot_u64_nat _ _ (wd_lt _ _) (wd_lt _ _)]
  congr 1
  apply Nat.eq_of_testBit_eq
  intro i
  rw [Nat.testBit_and, Nat.testBit_xor, testBit_ones, testBit_wd, testBit_wd, testBit_wd, fLess]
  by_cases hi : i < 64 <;> simp [hi]

theorem cloOr (x y : Int) (w : World) : Calls Tryd.prog 41 #[.int .u64 x, .int .u64 y] w fun e w' => e = .returned (.int .u64 (bits .or .u64 x y)) ∧ w = w' := by
  go_enter Tryd.func41, Tryd.ntmps41
  go_wp2_with fail
  go_ret
  exact ⟨rfl, rfl⟩
theorem cloLess (x y : Int) (w : World) : Calls Tryd.prog 43 #[.int .u64 x, .int .u64 y] w fun e w' => e = .returned (.int .u64 (bits .andNot .u64 x y)) ∧ w = w' := by
  go_enter Tryd.func43, Tryd.ntmps43
  go_wp2_with fail
  go_ret
  exact ⟨rfl, rfl⟩

set_option maxHeartbeats 400000 in
theorem joinBad (φ : FuncId) (b g n : Nat) (f : Nat → Bool) (o : Option Nat) (w : World) (h : BSet w b g n f) (hbad : ∀ b', o = some b' → ∃ g' n' f', BSet w b' g' n' f' ∧ n' ≠ n) :
    Calls Tryd.prog 40 #[.pointer (some ⟨b, 0, none⟩), .pointer (o.map fun b' => ⟨b', 0, none⟩), .func (.func φ) #[] #[]] w fun e w' => e = .returned (.tuple #[.pointer none, .int .i64 1]) ∧ ∃ k, w' = w.drewN k := by
  have c0 := h.n0
  cases o with
  | none =>
    clear h hbad
    simp only [Option.map_none]
    go_enter Tryd.func40, Tryd.ntmps40
    go_wp2_with fail
    go_quiet (fail)
    go_wp2_with fail
    go_ret2
    exact ⟨rfl, _, rfl⟩
  | some b' =>
    obtain ⟨g', n', f', h', hne⟩ := hbad b' rfl
    have c1 := h'.n0
    have hne' : ((n' : Int) == n) = false := by rw [beq_eq_false_iff_ne]; omega
    have hne2 : ((n' : Int) != n) = true := by rw [bne_iff_ne]; omega
    have hne3 : (n' == n) = false := by rw [beq_eq_false_iff_ne]; exact hne
    have hne4 : ¬ n' = n := hne
    clear h h' hbad
    simp only [Option.map_some]
    go_enter Tryd.func40, Tryd.ntmps40
    go_wp2_with fail
    go_quiet (fail)
    go_wp2_with fail
    go_ret2
    exact ⟨rfl, _, rfl⟩

/-- Joined so far. -/
def mixF (F f : Nat → Bool) (k : Nat) : Nat → Bool := fun x => if x < 64 * k then F x else f x
theorem wd_mix_out (F f : Nat → Bool) (k j : Nat) (h : j ≠ k) : wd (mixF F f (k + 1)) j = wd (mixF F f k) j := by
  apply pk_ext
  intro i hi
  unfold mixF
  by_cases a : 64 * j + i < 64 * k
  · rw [if_pos a, if_pos (by omega)]
  · rw [if_neg a, if_neg (by omega)]
theorem wd_mix_at (F f : Nat → Bool) (k : Nat) : wd (mixF F f k) k = wd f k := by
  apply pk_ext
  intro i hi
  unfold mixF
  rw [if_neg (by omega)]
theorem wd_mix_new (F f : Nat → Bool) (k : Nat) : wd (mixF F f (k + 1)) k = wd F k := by
  apply pk_ext
  intro i hi
  unfold mixF
  rw [if_pos (by omega)]
theorem BRaw.ext {w : World} {b g n : Nat} {f f' : Nat → Bool} (h : BRaw w b g n f) (e : ∀ k, k < (n + 63) / 64 → wd f' k = wd f k) : BRaw w b g n f' := by
  obtain ⟨cs, hcs, hk⟩ := h.words
  exact ⟨h.head, h.ne, ⟨cs, hcs, fun k hlt => by rw [hk k hlt, e k hlt]⟩, h.small⟩

/-- What is handed back: a new set. -/
def NewSet (n : Nat) (F : Nat → Bool) (w : World) (e : Ending) (w' : World) : Prop :=
  ∃ b g : Nat, e = .returned (.tuple #[.pointer (some ⟨b, 0, none⟩), .int .i64 0]) ∧ BSet w' b g n F ∧ Mod (fun _ => False) w w' ∧ w.heap.size ≤ b ∧ w.heap.size ≤ g

set_option maxRecDepth 100000 in
set_option maxHeartbeats 2000000 in
theorem joinOk (φ : FuncId) (op : BinOp) (F : (Nat → Bool) → (Nat → Bool) → Nat → Bool) (hcall : ∀ (x y : Value) (w : World), (callFunc φ #[x, y]).run Tryd.prog w = .ok (.enter φ #[x, y]) w) (hφ : ∀ (x y : Int) (w : World), Calls Tryd.prog φ #[.int .u64 x, .int .u64 y] w fun e w' => e = .returned (.int .u64 (bits op .u64 x y)) ∧ w = w')
    (hF : ∀ f f' k, bits op .u64 (wd f k : Int) (wd f' k : Int) = (wd (F f f') k : Int)) (hF0 : ∀ f f' i, f i = false → f' i = false → F f f' i = false)
    (b g b' g' n : Nat) (f f' : Nat → Bool) (w : World) (h : BSet w b g n f) (h' : BSet w b' g' n f') :
    Calls Tryd.prog 40 #[.pointer (some ⟨b, 0, none⟩), .pointer (some ⟨b', 0, none⟩), .func (.func φ) #[] #[]] w (NewSet n (F f f') w) := by
  have c0 := h.n0
  have c0' := h'.n0
  have hsm := h.small
  obtain ⟨c, hs⟩ := h.s1
  obtain ⟨c', hs'⟩ := h'.s1
  obtain ⟨m, hmm⟩ : ∃ m, m = (n + 63) / 64 := ⟨_, rfl⟩
  rw [← hmm] at hs hs'
  have hm9 : m ≤ 1024 := by omega
  have HM := Lib.hid hmm
  have H := Lib.hid h
  have H' := Lib.hid h'
  have HF := Lib.hid hF
  have HF0 := Lib.hid hF0
  have HP := Lib.hid hφ
  obtain ⟨i0, hi, hz0, hz1, hz2⟩ := info_parts infoU64
  obtain ⟨cs, hcs, hck⟩ := h.words
  rw [← hmm] at hck
  have hcl : cs.size ≥ m := by
    rcases Nat.eq_zero_or_pos m with e | e
    · omega
    · have := (Array.getElem?_eq_some_iff.1 (hck (m - 1) (by omega))).1
      omega
  have hclone : ∀ k, Calls Tryd.prog 50 #[.slice (some ⟨g, 0, none⟩) m c] (w.drewN k) fun e w' => ∃ v', e = .returned v' ∧ w'.ownsRow w.heap.size 38 1 v' m (cs.toList.take m) ∧ v' ≠ .slice none 0 0 ∧ Below w.heap.size (w.drewN k) w' := fun k =>
    Tryd.slices_Clone i0 (.int .u64 0) 1 8 hi hz0 hz1 hz2 rfl (by decide) Tryd.sizeOf38 g 0 m c (cs.toList.take m) _ (by simp; omega) (by unfold maxLen; omega) (by omega) (fun j u hj => by
      rw [Nat.zero_add, World.cell?_drewN, hcs.cell]
      rw [List.getElem?_take] at hj
      split at hj
      · simpa using hj
      · cases hj) (fun u hu => by
        obtain ⟨j, hj⟩ := List.getElem?_of_mem hu
        rw [List.getElem?_take] at hj
        split at hj
        · rename_i hjm
          have := hck j hjm
          simp at hj
          rw [hj] at this
          cases this
          rfl
        · cases hj)
  have HC := Lib.hid hclone
  clear h h' hF hF0 hφ hmm hclone hi hz0 hz1 hz2
  go_enter Tryd.func40, Tryd.ntmps40
  go_wp2_with fail
  go_quiet (fail)
  go_wp2_with fail
  refine wp_region2 [(3, 3), (8, 4)] [] (by kernel_rfl) (by kernel_rfl) ?_
  repeat (first | (refine reg_anyT (by rfl) (fun K hK => ?_); go_simp; refine hK _ _ ?_; clear hK K) | (refine reg_read (by rfl) (fun K hK => ?_); go_simp; refine hK _ _ ?_; clear hK K))
  refine reg_hold_v (by rfl) (by rfl) (.int .i64 n) (fun w' hw' => q_load _ _ _ rfl rfl Tryd.isAgg3 (hw'.cell c0)) ?_
  repeat (first | (refine reg_anyT (by rfl) (fun K hK => ?_); go_simp; refine hK _ _ ?_; clear hK K) | (refine reg_read (by rfl) (fun K hK => ?_); go_simp; refine hK _ _ ?_; clear hK K))
  refine reg_new (by rfl) (fun rn K hK => ?_); go_simp
  refine (HC.out _).mono ?_; rintro e w1 ⟨v1, rfl, o1, hv1, bl⟩
  refine hK _ _ ⟨⟨bl.size, fun k hk => bl.block k hk⟩, ?_⟩; clear hK K
  obtain ⟨ol, o2⟩ := o1
  rcases o2 with ⟨rfl, _⟩ | ⟨g2, cap, cur, rfl, hg2, hh, hcap, _, _, htk⟩
  · exact absurd rfl hv1
  repeat (first | (refine reg_anyT (by rfl) (fun K hK => ?_); go_simp; refine hK _ _ ?_; clear hK K) | (refine reg_read (by rfl) (fun K hK => ?_); go_simp; refine hK _ _ ?_; clear hK K))
  refine reg_eff (by rfl) (fun rn K hK => ?_); go_simp; refine hK _ _ ?_; clear hK K
  repeat (first | (refine reg_anyT (by rfl) (fun K hK => ?_); go_simp; refine hK _ _ ?_; clear hK K) | (refine reg_read (by rfl) (fun K hK => ?_); go_simp; refine hK _ _ ?_; clear hK K))
  refine reg_nil (fun nd => ?_)
  have m1 : Mod (fun _ => False) w w1 := ⟨bl.os, bl.tape, bl.output, bl.size, fun k hk _ => bl.block k hk⟩
  generalize hw3 : World.drewN (World.alloc (World.drewN w1 _) _) nd = w3
  have m3 : Mod (fun _ => False) w w3 := by rw [← hw3]; exact ((m1.drewN _).alloc _).drewN _
  have hb3 : Blk w3 w1.heap.size #[.int .i64 n, .slice (some ⟨g2, 0, none⟩) m cap] 59 := by rw [← hw3]; exact (Blk.new (w1.drewN _) _ _).drewN _
  have hg3 : Blk w3 g2 cur 38 := by
    have h1 : Blk w1 g2 cur 38 := hh
    rw [← hw3]
    exact ((h1.drewN _).alloc _).drewN _
  obtain ⟨B3, hB3⟩ : ∃ B, B = w1.heap.size := ⟨_, rfl⟩
  rw [← hB3] at hb3 ⊢
  have hg2lt : g2 < w1.heap.size := (Array.getElem?_eq_some_iff.1 hh).1
  have hr0 : BRaw w3 B3 g2 n (mixF (F f f') f 0) := by
    refine ⟨⟨cap, by rw [← HM.out]; exact hb3⟩, by omega, ⟨cur, hg3, fun k hk => ?_⟩, H.out.small⟩
    have hk' : k < m := by rw [HM.out]; exact hk
    have e0 : wd (mixF (F f f') f 0) k = wd f k := pk_ext fun i _ => by unfold mixF; rw [if_neg (by omega)]
    rw [e0, ← hck k hk']
    have h1 := congrArg (·[k]?) htk
    simp only [List.getElem?_take, Nat.mul_one, if_pos hk'] at h1
    simpa using h1
  have HR0 := Lib.hid hr0
  have hb9 : w.heap.size ≤ B3 := by rw [hB3]; exact m1.size
  have hs3 : w3.cell? ⟨b', 1, none⟩ = some (.slice (some ⟨g', 0, none⟩) m c') := m3.cell hs' (fun h => h)
  have hl := H'.out.lt
  clear hr0 hb3 hg3 hw3 m1 bl hh htk hv1 ol hck hcl hcs hg2lt hB3 c0 c0' hs hs'
  go_wp2_with fail
  clear hs3
  go_loopw [40] (fun v wr => ∃ k : Nat, v = .int .i64 k ∧ k ≤ m ∧ Hid (BRaw wr B3 g2 n (mixF (F f f') f k)) ∧ Mod (· = g2) w3 wr) (fun v _ => m - (intOf v).toNat)
  case atStart => exact ⟨0, rfl, Nat.zero_le _, HR0, Mod.refl _ _⟩
  case round =>
    obtain ⟨k, rfl, hk, hr, hm⟩ := hrel
    by_cases hlt : k < m
    · obtain ⟨d1, d2⟩ := hr.out.word (k := k) (by rw [← HM.out]; exact hlt)
      obtain ⟨cc, d3⟩ := hr.out.s1
      rw [← HM.out] at d3
      rw [wd_mix_at] at d1
      have ho := (H'.out.mod m3 (fun h => h) (fun h => h)).mod hm (by show ¬ b' = g2; omega) (by show ¬ g' = g2; omega)
      obtain ⟨d4, _⟩ := ho.word (k := k) (by rw [← HM.out]; exact hlt)
      have hnx : ∀ j, BRaw ((wr.drewN j).setCell ⟨g2, k, none⟩ (.int .u64 (bits op .u64 (wd f k : Int) (wd f' k : Int)))) B3 g2 n (mixF (F f f') f (k + 1)) :=
        fun j => (hr.out.drewN j).put k _ _ (by rw [HF.out, wd_mix_new]) (fun j hj => wd_mix_out _ _ _ _ hj)
      have HNX := Lib.hid hnx
      have hlt' : (k : Int) < m := by omega
      clear hnx ho
      generalize wd f k = W at d1 HNX
      generalize wd f' k = W' at d4 HNX
      go_wp2_with fail
      refine wp_region2 [(14, 1)] [] (by kernel_rfl) (by kernel_rfl) ?_
      repeat (first | (refine reg_anyT (by rfl) (fun K hK => ?_); go_simp; refine hK _ _ ?_; clear hK K) | (refine reg_read (by rfl) (fun K hK => ?_); go_simp; refine hK _ _ ?_; clear hK K))
      refine reg_read (by rfl) (fun K hK => ?_); go_simp
      refine ⟨_, fun rn => rd_same (HP.out _ _ _), hK _ _ ?_⟩; clear hK K
      repeat (first | (refine reg_anyT (by rfl) (fun K hK => ?_); go_simp; refine hK _ _ ?_; clear hK K) | (refine reg_read (by rfl) (fun K hK => ?_); go_simp; refine hK _ _ ?_; clear hK K))
      refine reg_eff (by rfl) (fun rn K hK => ?_); go_simp; refine hK _ _ ?_; clear hK K
      repeat (first | (refine reg_anyT (by rfl) (fun K hK => ?_); go_simp; refine hK _ _ ?_; clear hK K) | (refine reg_read (by rfl) (fun K hK => ?_); go_simp; refine hK _ _ ?_; clear hK K))
      refine reg_nil (fun nd => ?_)
      go_wp2_with fail
      go_roundw
      case rel => exact ⟨k + 1, by go_num, by omega, ((HNX.out rn).drewN _), ((hm.drewN _).setCell (p := ⟨g2, k, none⟩) (.inl rfl) _).drewN _⟩
      case measure => simp [intOf]; omega
    · obtain rfl : k = m := by omega
      have hfin : BSet wr B3 g2 n (F f f') := by
        refine ⟨hr.out.ext fun j hj => pk_ext fun i hi => ?_, fun i hi => HF0.out _ _ _ (H.out.out i hi) (H'.out.out i hi)⟩
        unfold mixF
        rw [if_pos (by have := HM.out; omega)]
      have HFIN := Lib.hid hfin
      clear hfin
      go_wp2_with fail
      go_ret2
      exact ⟨B3, g2, rfl, HFIN.out, m3.new hm (by intro i hi; omega), hb9, hg2⟩

theorem bitsOr (b g b' g' n : Nat) (f f' : Nat → Bool) (w : World) (h : BSet w b g n f) (h' : BSet w b' g' n f') :
    Calls Tryd.prog 31 #[.pointer (some ⟨b, 0, none⟩), .pointer (some ⟨b', 0, none⟩)] w (NewSet n (fOr f f') w) := by
  have hj := joinOk 41 .or fOr (fun _ _ _ => by kernel_rfl) cloOr wd_or (fun f f' i h1 h2 => by simp [fOr, h1, h2]) b g b' g' n f f' w h h'
  have HJ := Lib.hid hj
  clear hj h h'
  go_enter Tryd.func31, Tryd.ntmps31
  go_wp2_with fail
  refine HJ.out.mono ?_; rintro e w' ⟨x, y, rfl, h1, h2, h3, h4⟩
  go_wp2_with fail
  go_ret2
  exact ⟨x, y, rfl, h1, h2, h3, h4⟩
theorem bitsLess (b g b' g' n : Nat) (f f' : Nat → Bool) (w : World) (h : BSet w b g n f) (h' : BSet w b' g' n f') :
    Calls Tryd.prog 33 #[.pointer (some ⟨b, 0, none⟩), .pointer (some ⟨b', 0, none⟩)] w (NewSet n (fLess f f') w) := by
  have hj := joinOk 43 .andNot fLess (fun _ _ _ => by kernel_rfl) cloLess wd_less (fun f f' i h1 h2 => by simp [fLess, h1]) b g b' g' n f f' w h h'
  have HJ := Lib.hid hj
  clear hj h h'
  go_enter Tryd.func33, Tryd.ntmps33
  go_wp2_with fail
  refine HJ.out.mono ?_; rintro e w' ⟨x, y, rfl, h1, h2, h3, h4⟩
  go_wp2_with fail
  go_ret2
  exact ⟨x, y, rfl, h1, h2, h3, h4⟩
end Go.Proofs.YtfopglaagnbacaaDoor
