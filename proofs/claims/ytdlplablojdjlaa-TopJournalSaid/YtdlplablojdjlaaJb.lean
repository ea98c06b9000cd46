/- Package bytes: Repeat of eight bytes, twice; journal: head; no condition. -/
import Derived.Test.YtdlplablojdjlaaJa
import Derived.Test.YtdlplablojdjlaaShelf
import Derived.Lib.MakeNoZero
import Derived.Laws.CopyOwn
import Derived.Laws.Externs
namespace Go.Proofs.Ytdlplablojdjlaa
open Go Go.RowKit Go.IntWalk

/-- A slice of bytes that lies in memory of the call's own. -/
def FB (w : World) (base : Nat) (v : Value) (bs : List Nat) : Prop := BS w v bs ∧ ∀ X m c, v = .slice (some X) m c → base ≤ X.block
/-- 'copy' into a row that is known whole. -/
theorem run_copyB {w : World} (ty : TypeId) (g o dLen dCap : Nat) (x : Addr) (n c : Nat) (cur Y : List Value) (hg : w.heap[g]? = some (.cells cur.toArray 5 (0, 0))) (hn : Y.length = Nat.min n dLen) (hs : ∀ j u, Y[j]? = some u → w.cell? (x.add j) = some u) (hfit : o + Y.length ≤ cur.length) (h1 : ∀ u ∈ Y, u.oneCell' = true) :
    ∃ w', (Builtin.copy_ #[37, 37] ty #[.slice (some ⟨g, o, none⟩) dLen dCap, .slice (some x) n c]).run Try.prog w = .ok (.int .i64 Y.length) w' ∧ w'.heap[g]? = some (.cells (splice cur o Y).toArray 5 (0, 0)) ∧ Mod (· = g) w w' := by
  refine ⟨_, run_copy_row (P := Try.prog) w 37 37 ty 5 g o dLen dCap x n c cur.toArray 5 Y Try.underlying37 (by kernel_rfl) hg hn hs (by simpa using hfit) h1, ?_, rfl, rfl, rfl, by simp [World.setRow], fun k hk hs => setRow_other w g k _ hs⟩
  have := setRow_heap w g cur.toArray (cur.take o ++ Y ++ cur.drop (o + Y.length)).toArray 5 (0, 0) hg
  rw [this]
  simp [splice]
set_option maxRecDepth 100000 in
set_option maxHeartbeats 2000000 in
theorem jRepeat (v : Value) (bs : List Nat) (w : World) (hl : bs.length = 8) (hs : BS w v bs) :
    Calls Try.prog 57 #[v, .int .i64 2] w fun e w' => ∃ v', e = .returned v' ∧ FB w' w.heap.size v' (bs ++ bs) ∧ Mod (fun _ => False) w w' := by
  obtain ⟨x, c, rfl, -⟩ := hs.byt 0 (by omega)
  have HS := Lib.hid hs
  rw [hl]
  clear hs
  have hM : Calls Try.prog 69 #[.int .u64 8, .int .u64 2] w fun e w' => e = .returned (.tuple #[.int .u64 0, .int .u64 16]) ∧ w' = w := Try.bits_Mul 8 2 (by decide) (by decide) w
  go_enter Try.func57, Try.ntmps57
  go_wp2_with fail
  refine hM.mono ?_; rintro e w1 ⟨rfl, rfl⟩
  go_wp2_with fail
  obtain ⟨cs, hrun, hcs, hcm⟩ := Lib.run_makeNoZero (P := Try.prog) w1 #[] 37 5 Try.underlying37 16 (by decide)
  rw [run_callFunc_extern Try.func70 (by kernel_rfl) (by kernel_rfl) (by kernel_rfl) (e := Extern.BytealgMakeNoZero.makeNoZero #[3] #[37]) (by kernel_rfl)]
  have hrun' := hrun
  rw [show (Extern.BytealgMakeNoZero.makeNoZero #[3] #[37] #[.int .i64 16]) = (Extern.BytealgMakeNoZero.makeNoZero #[] #[37] #[.int .i64 ((16 : Nat) : Int)]) from rfl, hrun']
  simp only [Result.andThen]
  rw [Oper.upon_value]
  have ma := (((Mod.refl (fun _ => False) w1).drew).drew).alloc (.cells cs 5)
  have hb2 : (w1.drew.drew.alloc (.cells cs 5)).heap[w1.heap.size]? = some (.cells cs.toList.toArray 5 (0, 0)) := by rw [Array.toArray_toList]; exact heap_alloc_new w1.drew.drew _
  have HBW : Below w1.heap.size w1 (w1.drew.drew.alloc (.cells cs 5)) := ma.below (Nat.le_refl _) (fun _ h => h.elim)
  generalize w1.drew.drew.alloc (.cells cs 5) = w2 at *
  clear hrun hrun' hM
  obtain ⟨cur, hcur⟩ : ∃ l, l = cs.toList := ⟨_, rfl⟩
  have hcl : 16 ≤ cur.length ∧ cur.length ≤ maxLen := by rw [hcur]; exact ⟨by simpa using hcs, by simpa using hcm (by decide)⟩
  rw [← hcur] at hb2
  have hcz : cs.size = cur.length := by rw [hcur]; simp
  rw [hcz]
  clear hcur hcs hcm hcz
  have hcl1 := hcl.1
  have hxs := (HS.out.mod (S := fun _ => False) (Mod.of_below HBW) fun _ _ _ _ h => h)
  have hsrc : ∀ j u, (byts bs)[j]? = some u → w2.cell? (x.add j) = some u := by
    rcases hxs.sl with ⟨e, _⟩ | ⟨x', c', e, _, hc⟩
    · cases e
    · cases e; exact hc
  have hYl : (byts bs).length = 8 := by rw [byts_len, hl]
  obtain ⟨w3, hr3, hg3, hm3⟩ := run_copyB (w := w2) 3 w1.heap.size 0 16 16 x 8 c cur (byts bs) hb2 (by rw [hYl]; rfl) hsrc (by rw [hYl]; omega) (byts_one bs)
  rw [hYl] at hr3
  obtain ⟨g, hg⟩ : ∃ g, g = w1.heap.size := ⟨_, rfl⟩
  have HG := Lib.hid hg
  rw [← hg] at hr3 hg3 hm3 ⊢
  have HM3 := Lib.hid (((Mod.of_below (S := fun _ => False) HBW).new hm3 (fun i e => by omega)))
  obtain ⟨C, hC⟩ : ∃ C, C = splice cur 0 (byts bs) := ⟨_, rfl⟩
  rw [← hC] at hg3
  have hCl : C.length = cur.length := by rw [hC, length_splice _ _ _ (by rw [hYl]; omega)]
  have hCt : C.take 8 = byts bs := by rw [hC]; unfold splice; rw [List.take_zero, List.nil_append, ← hYl]; exact List.take_left
  have HR3 := Lib.hid hg3
  have HC := Lib.hid (And.intro hcl (And.intro hCl hCt))
  clear hg3 hm3 hC hCl hCt hg hsrc hxs HBW hb2 hcl ma hYl
  go_wp2_with fail
  clear hr3 hcl1
  have HMW : Hid (w1.heap.size ≤ g) := by show _ ≤ _; rw [← HG.out]; exact Nat.le_refl _
  go_loopw [10] (fun v wr => (v = .int .i64 8 ∧ wr = w3) ∨ (v = .int .i64 16 ∧ Hid (∃ D : List Value, wr.heap[g]? = some (.cells D.toArray 5 (0, 0)) ∧ D.length = C.length ∧ D.take 16 = byts bs ++ byts bs) ∧ Hid (Mod (fun _ => False) w1 wr))) (fun v _ => 16 - (intOf v).toNat)
  case atStart => exact .inl ⟨rfl, rfl⟩
  case round =>
    rcases hrel with ⟨rfl, rfl⟩ | ⟨rfl, hD, hm⟩
    · have hY : ∀ rn j u, (C.take 8)[j]? = some u → (wr.drewN rn).cell? ((⟨g, 0, none⟩ : Addr).add j) = some u := fun rn j u hj => by
        rw [add_g]
        have hb : Blk (wr.drewN rn) g C.toArray 5 := HR3.out
        rw [hb.cell j]
        rw [List.getElem?_take] at hj
        split at hj
        · simpa using hj
        · cases hj
      have HY := Lib.hid hY
      have hlY : (C.take 8).length = 8 := by rw [HC.out.2.2, byts_len, hl]
      have HLY := Lib.hid hlY
      have hC16 : 16 ≤ C.length := by have := HC.out; omega
      have HC16 := Lib.hid hC16
      clear hY hlY hC16
      have hmin : min (8 : Int) 16 = 8 := by decide
      go_wp2_with fail
      refine wp_region2 [(7, 2)] [] (by kernel_rfl) (by kernel_rfl) ?_
      repeat (first | (refine reg_anyT (by rfl) (fun K hK => ?_); go_simp; refine hK _ _ ?_; clear hK K) | (refine reg_read (by rfl) (fun K hK => ?_); go_simp; refine hK _ _ ?_; clear hK K))
      refine reg_eff (by rfl) (fun rn K hK => ?_)
      obtain ⟨w4, hr4, hg4, hm4⟩ := run_copyB (w := wr.drewN rn) 3 g 8 8 8 ⟨g, 0, none⟩ 8 16 C (C.take 8) HR3.out (by rw [HLY.out]; rfl) (HY.out rn) (by rw [HLY.out]; exact HC16.out) (by rw [HC.out.2.2]; exact byts_one bs)
      rw [HLY.out] at hr4
      have HG4 := Lib.hid hg4
      have HM4 := Lib.hid hm4
      clear hg4 hm4
      go_simp
      refine hK _ _ ?_; clear hK K hr4
      repeat (first | (refine reg_anyT (by rfl) (fun K hK => ?_); go_simp; refine hK _ _ ?_; clear hK K) | (refine reg_read (by rfl) (fun K hK => ?_); go_simp; refine hK _ _ ?_; clear hK K))
      refine reg_nil (fun nd => ?_)
      go_wp2_with fail
      refine ⟨.inr ⟨rfl, ⟨splice C 8 (C.take 8), HG4.out, length_splice _ _ _ (by rw [HLY.out]; exact HC16.out), ?_⟩, ((HM3.out.new HM4.out.undrew (fun i e => by rw [e]; exact HMW.out)).drewN _)⟩, by simp [intOf]; decide⟩
      unfold splice
      rw [← List.append_assoc, ← HC.out.2.2]
      rw [show (16 : Nat) = (C.take 8 ++ C.take 8).length by rw [List.length_append, HLY.out]]
      exact List.take_left
    · obtain ⟨D, hD1, hD2, hD3⟩ := hD.out
      have HD1 := Lib.hid hD1
      have HD := Lib.hid (And.intro hD2 hD3)
      clear hD1 hD2 hD3 hD
      go_wp2_with fail
      go_ret
      refine ⟨_, rfl, ⟨⟨.inr ⟨⟨g, 0, none⟩, 16, ?_, by rw [byts_len, Nat.mul_one], fun j u hj => ?_⟩, fun X m c e => by cases e; exact Nat.le_refl _⟩, fun X m c e => by cases e; exact HMW.out⟩, hm.out⟩
      · rw [List.length_append, hl]; rfl
      · rw [byts_append, ← HD.out.2, List.getElem?_take] at hj
        rw [add_g]
        split at hj
        · have hb : Blk wr g D.toArray 5 := HD1.out
          rw [hb.cell j]
          simpa using hj
        · cases hj
/-- A head. -/
def hd (n m : Nat) : List Nat := (num4 n ++ num4 m) ++ (num4 n ++ num4 m)
set_option maxRecDepth 100000 in
set_option maxHeartbeats 1000000 in
theorem jHead (n m : Nat) (w : World) (hn : n < 4294967296) (hm : m < 4294967296) :
    Calls Try.prog 30 #[.int .i64 n, .int .i64 m] w fun e w' => ∃ v', e = .returned v' ∧ FB w' w.heap.size v' (hd n m) ∧ Mod (fun _ => False) w w' := by
  have HM := Lib.hid hm
  go_enter Try.func30, Try.ntmps30
  go_wp2_with fail
  refine (jNumber n w hn).mono ?_; rintro e w1 ⟨v1, rfl, o1, m1⟩
  have O1 := Lib.hid o1
  have M1 := Lib.hid m1
  clear o1 m1
  go_wp2_with fail
  refine (jNumber m w1 HM.out).mono ?_; rintro e w2 ⟨v2, rfl, o2, m2⟩
  have O2 := Lib.hid (O1.out.new m2)
  have HS2 := Lib.hid o2.bs
  have M2 := Lib.hid (M1.out.trans m2)
  clear o2 m2 O1 M1
  go_wp2_with (at_builtin; refine app1 (base := w.heap.size) rfl (.tmp 6) (.tmp 8) 37 5 1 rfl Try.underlying37 infoU8' rfl (by decide) _ _ _ _ _ _ M2.out.size O2.out rfl rfl HS2.out.sl (byts_one _) (by decide) (show (4 + 4) * 1 ≤ 140737488355328 by decide) ?_; intro v' w3 g1 g2 g3; have G1 := Lib.hid g1; have G2 := Lib.hid g2; clear g1 g2 g3)
  have M3 := Lib.hid (M2.out.new G2.out fun i e => (O2.out.lt i e).1)
  have HB3 : Hid (BS w3 v' (num4 n ++ num4 m)) := by
    have h1 : OB w3 w.heap.size v' (num4 n ++ num4 m) := by
      have := G1.out
      rw [← byts_append] at this
      exact this
    exact h1.bs
  refine (jRepeat v' (num4 n ++ num4 m) w3 rfl HB3.out).mono ?_; rintro e w4 ⟨v4, rfl, f4, m4⟩
  have F4 := Lib.hid f4
  have M4 := Lib.hid (M3.out.trans m4)
  have hsz := M3.out.size
  clear f4 m4
  go_wp2_with fail
  go_ret
  exact ⟨_, rfl, ⟨F4.out.1, fun X m c e => Nat.le_trans hsz (F4.out.2 X m c e)⟩, M4.out⟩
end Go.Proofs.Ytdlplablojdjlaa
