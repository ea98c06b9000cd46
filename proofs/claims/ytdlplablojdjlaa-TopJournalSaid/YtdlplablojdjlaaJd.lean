/- Package files: wrote; slices: Clone of bytes; no condition. -/
import Derived.Test.YtdlplablojdjlaaJc
import Derived.Lib.SliceRun
namespace Go.Proofs.Ytdlplablojdjlaa
open Go Go.RowKit Go.IntWalk

theorem run_copyS {w : World} (ty : TypeId) (g o dLen dCap : Nat) (v : Value) (bs : List Nat) (cur : List Value) (hg : w.heap[g]? = some (.cells cur.toArray 5 (0, 0))) (hs : BS w v bs) (hn : bs.length ≤ dLen) (hfit : o + bs.length ≤ cur.length) :
    ∃ w', (Builtin.copy_ #[37, 37] ty #[.slice (some ⟨g, o, none⟩) dLen dCap, v]).run Try.prog w = .ok (.int .i64 bs.length) w' ∧ w'.heap[g]? = some (.cells (splice cur o (byts bs)).toArray 5 (0, 0)) ∧ Mod (· = g) w w' := by
  rcases hs.sl with ⟨rfl, h2, h3⟩ | ⟨x, c, rfl, h2, h3⟩
  · refine ⟨w, ?_, ?_, Mod.refl _ _⟩
    · rw [run_copy_nil (P := Try.prog) w 37 37 ty 5 ⟨g, o, none⟩ dLen dCap Try.underlying37 (by kernel_rfl), h2]
      rfl
    · rw [h3, hg]
      simp [splice]
  · have := run_copyB (w := w) ty g o dLen dCap x bs.length c cur (byts bs) hg (by rw [byts_len]; exact (Nat.min_eq_left hn).symm) h3 (by rw [byts_len]; exact hfit) (byts_one bs)
    rw [byts_len] at this
    exact this
set_option maxRecDepth 100000 in
set_option maxHeartbeats 400000 in
theorem jClone (v : Value) (bs : List Nat) (w : World) (hs : BS w v bs) (h : bs.length ≤ 1048576) :
    Calls Try.prog 36 #[v] w fun e w' => ∃ v', e = .returned v' ∧ OB w' w.heap.size v' bs ∧ Mod (fun _ => False) w w' := by
  have q37 : ∀ (w : World) (a : Option Addr) (n c n' c' : Nat), (binOp .eql 37 (.slice a n c) (.slice none n' c')).run Try.prog w = .ok (.bool a.isNone) w := fun w a n c n' c' => Lib.run_eql_slice_nil w _ _ a n c n' c' Try.underlying37
  obtain ⟨m, hm⟩ : ∃ m, m = bs.length := ⟨_, rfl⟩
  rcases hs.sl with ⟨rfl, h2, h3⟩ | ⟨x, c, rfl, h2, h3⟩
  · have hb : bs = [] := List.length_eq_zero_iff.1 h2
    subst hb
    go_enter Try.func36, Try.ntmps36
    go_wp2_with fail
    go_ret
    exact ⟨_, rfl, World.ownsRow_nil _ _ _ _, Mod.refl _ _⟩
  · have hsl := hs.sl
    rw [← hm] at h hsl ⊢
    have HS := Lib.hid hsl
    have HM := Lib.hid hm
    clear hm h2 h3 hs hsl
    go_enter Try.func36, Try.ntmps36
    go_wp2_with (at_builtin; refine app1 (base := w.heap.size) rfl (.tmp 5) (.tmp 6) 37 5 1 rfl Try.underlying37 infoU8' rfl (by decide) _ 0 [] _ m (byts bs) (by simp) (owns_empty w _ _ _ (Nat.le_refl _)) rfl rfl (HS.out.alloc _) (byts_one _) (by decide) (by omega) ?_; intro v' w3 g1 g2 g3; have G1 := Lib.hid g1; have G2 := Lib.hid g2; clear g1 g2 g3)
    go_ret
    refine ⟨_, rfl, ?_, ?_⟩
    · have := G1.out
      rw [HM.out, Nat.zero_add] at this
      exact this
    · refine ((Mod.refl (fun _ => False) w).alloc (.cells #[] 5)).new G2.out fun i e => ?_
      cases e
      exact Nat.le_refl _
/-- Bytes with others at a place. -/
def wr (old : List Nat) (at' : Nat) (b : List Nat) : List Nat := old.take at' ++ (b ++ old.drop (at' + b.length))
theorem wr_end (old b : List Nat) : wr old old.length b = old ++ b := by
  unfold wr
  rw [List.take_length, List.drop_eq_nil_of_le (by omega), List.append_nil]
theorem wr_nil (b : List Nat) : wr [] 0 b = b := by simp [wr]
theorem splice_two {α : Type} (Z X Y : List α) (k : Nat) (hk : k ≤ X.length) (hx : X.length ≤ Z.length) (hy : Z.length = max X.length (k + Y.length)) : splice (splice Z 0 X) k Y = X.take k ++ (Y ++ X.drop (k + Y.length)) := by
  unfold splice
  rw [List.take_zero, List.nil_append, Nat.zero_add, List.take_append_of_le_length hk]
  congr 2
  rw [List.drop_append]
  by_cases h : k + Y.length ≤ X.length
  · rw [show (Z.drop X.length).drop (k + Y.length - X.length) = [] from List.drop_eq_nil_of_le (by rw [List.length_drop]; omega), List.append_nil]
  · rw [List.drop_drop, show Z.drop (X.length + (k + Y.length - X.length)) = [] from List.drop_eq_nil_of_le (by omega), List.append_nil]
set_option maxRecDepth 100000 in
set_option maxHeartbeats 1000000 in
theorem jWrote (v u : Value) (old bs : List Nat) (k : Nat) (w : World) (hv : BS w v old) (hu : BS w u bs) (hk : k ≤ old.length) (hb : 0 < bs.length) (ho : old.length ≤ 1048576) (hbl : bs.length ≤ 1048576) :
    Calls Try.prog 33 #[v, .int .i64 k, u] w fun e w' => ∃ v', e = .returned v' ∧ OB w' w.heap.size v' (wr old k bs) ∧ Mod (fun _ => False) w w' := by
  obtain ⟨N, hN⟩ : ∃ N, N = max old.length (k + bs.length) := ⟨_, rfl⟩
  obtain ⟨i0, hi, hz0, hz1, hz2⟩ := info_parts infoU8'
  have hmk := run_makeSlice (P := Try.prog) w 37 5 i0 (.int .u8 0) Try.underlying37 hi hz0 .i64 .i64 (N : Int) (N : Int) (by omega) (Int.le_refl _) (by rw [hz1]; omega) (by rw [hz2]; omega) (by omega)
  rw [hz1] at hmk
  simp only [Int.toNat_natCast, Nat.mul_one, Value.cells] at hmk
  have hzl : (madeCells #[Value.int .u8 0] N).toList.length = N := by
    rw [Array.length_toList]
    simp [madeCells]
  obtain ⟨Z, hZ⟩ : ∃ Z, Z = (madeCells #[Value.int .u8 0] N).toList := ⟨_, rfl⟩
  rw [← hZ] at hzl
  have hgz : (w.alloc (.cells (madeCells #[Value.int .u8 0] N) 5)).heap[w.heap.size]? = some (.cells Z.toArray 5 (0, 0)) := by rw [hZ, Array.toArray_toList]; exact heap_alloc_new w _
  have ma := (Mod.refl (fun _ => False) w).alloc (.cells (madeCells #[Value.int .u8 0] N) 5)
  obtain ⟨w2, hc2, hg2, hm2⟩ := run_copyS (w := w.alloc (.cells (madeCells #[Value.int .u8 0] N) 5)) 3 w.heap.size 0 N N v old Z hgz (hv.new ma) (by omega) (by omega)
  have hl2 : (splice Z 0 (byts old)).length = Z.length := length_splice _ _ _ (by rw [byts_len]; omega)
  have hu2 := (hu.new ma).mod hm2 (fun X m c e e2 => by
    rcases hu.sl with ⟨rfl, _⟩ | ⟨x, c', rfl, h2, h3⟩
    · cases e
    · cases e
      have h4 := World.block_lt_of_cell? w _ (h3 0 _ (List.getElem?_eq_getElem (by rw [byts_len]; omega)))
      rw [Addr.add_block] at h4
      omega)
  obtain ⟨w3, hc3, hg3, hm3⟩ := run_copyS (w := w2) 3 w.heap.size k (N - k) (N - k) u bs (splice Z 0 (byts old)) hg2 hu2 (by omega) (by rw [hl2]; omega)
  have hsp : splice (splice Z 0 (byts old)) k (byts bs) = byts (wr old k bs) := by
    rw [splice_two Z (byts old) (byts bs) k (by rw [byts_len]; exact hk) (by rw [byts_len]; omega) (by rw [byts_len, byts_len]; omega)]
    unfold wr byts
    rw [List.map_append, List.map_append, List.map_take, List.map_drop, List.length_map]
  rw [hsp] at hg3
  have hwl : (wr old k bs).length = N := by unfold wr; simp; omega
  have HG3 := Lib.hid hg3
  have HM3 := Lib.hid (((ma.new hm2 (fun i e => by omega))).new hm3 (fun i e => by omega))
  have hlo : ∃ a c, v = .slice a old.length c := by
    rcases hv.sl with ⟨rfl, h2, _⟩ | ⟨x, c, rfl, _, _⟩
    · exact ⟨none, 0, by rw [h2]⟩
    · exact ⟨some x, c, rfl⟩
  have hlb : ∃ a c, u = .slice a bs.length c := by
    rcases hu.sl with ⟨rfl, h2, _⟩ | ⟨x, c, rfl, _, _⟩
    · exact ⟨none, 0, by rw [h2]⟩
    · exact ⟨some x, c, rfl⟩
  obtain ⟨va, vc, rfl⟩ := hlo
  obtain ⟨ua, uc, rfl⟩ := hlb
  obtain ⟨p, hp⟩ : ∃ p, p = old.length := ⟨_, rfl⟩
  obtain ⟨q, hq⟩ : ∃ q, q = bs.length := ⟨_, rfl⟩
  have hmx : max (p : Int) ((k : Int) + q) = N := by rw [hp, hq]; omega
  have hne : ¬ N = k := by omega
  have hle : (k : Int) ≤ N := by omega
  have hwk : IntKind.i64.wrap ((k : Int) + q) = (k : Int) + q := wrapI (by omega) (by rw [hq]; omega)
  rw [← hp] at hc2 ⊢
  rw [← hq] at hc3 ⊢
  have HWL := Lib.hid hwl
  have HN : Hid (N ≤ 4194304) := by show _ ≤ _; omega
  have hkN : k ≤ N := by omega
  have hwp : (p : Int) ≤ 1048576 := by omega
  have hwq : (q : Int) ≤ 1048576 := by omega
  clear hi hz0 hz1 hz2 hN hgz ma hg2 hm2 hl2 hu2 hg3 hm3 hsp hwl hv hu hzl hZ hp hq
  go_enter Try.func33, Try.ntmps33
  go_wp2_with fail
  go_ret
  refine ⟨_, rfl, ?_, HM3.out⟩
  refine ⟨by rw [byts_len, Nat.mul_one], .inr ⟨w.heap.size, N, (byts (wr old k bs)).toArray, ?_, Nat.le_refl _, HG3.out, ?_, ?_, ?_, ?_⟩⟩
  · rw [HWL.out]; rfl
  · rw [HWL.out]; exact Nat.le_refl _
  · have := HN.out; unfold maxLen; omega
  · rw [List.size_toArray, byts_len, HWL.out, Nat.mul_one]
  · rw [Nat.mul_one]; exact List.take_of_length_le (by rw [byts_len]; exact Nat.le_refl _)
end Go.Proofs.Ytdlplablojdjlaa
