/- Packages tlv and journal: Uint, encoded, cut, ToUint, long, of records of less than 128 bytes; no condition. -/
import Derived.Test.YtdlplablojdjlaaJb
namespace Go.Proofs.Ytdlplablojdjlaa
open Go Go.RowKit Go.IntWalk

theorem wrap8 {k : Nat} (h : k < 256) : IntKind.u8.wrap (k : Int) = k := by
  unfold IntKind.wrap
  simp [IntKind.bits, IntKind.signed]
  omega
theorem byts1 (k : Nat) : byts [k] = [.int .u8 k] := rfl
theorem infoU8z : (Try.prog.info? 5).map (fun i => (i.zero, i.size, i.bytes)) = some (some (.int .u8 0), 1, 1) := infoU8'
set_option maxHeartbeats 400000 in
set_option maxRecDepth 100000 in
theorem jUint (k : Nat) (w : World) (h : k < 128) :
    Calls Try.prog 51 #[.int .u64 k] w fun e w' => ∃ v', e = .returned v' ∧ OB w' w.heap.size v' [k] ∧ Mod (fun _ => False) w w' := by
  have hk : ¬ (128 : Int) ≤ k := by omega
  have h8 := wrap8 (k := k) (by omega)
  have HK := Lib.hid h
  go_enter Try.func51, Try.ntmps51
  go_wp2_with fail
  go_loopw [0, 3] (fun n v wr => n = .int .u64 k ∧ v = .slice none 0 0 ∧ wr = w) (fun _ _ _ => 0)
  case atStart => exact ⟨rfl, rfl, rfl⟩
  case round =>
    obtain ⟨rfl, rfl, rfl⟩ := hrel
    go_wp2_with (at_builtin; refine app1 (base := wr.heap.size) rfl (.tmp 14) (.tmp 17) 37 5 1 rfl Try.underlying37 infoU8' rfl (by decide) (.slice none 0 0) 0 [] _ 1 [.int .u8 k] (by simp) (World.ownsRow_nil _ _ _ _) rfl rfl (sl_new wr #[.int .u8 k] 5) (by simp [Value.oneCell']) (by decide) (by decide) ?_; intro v' w' g1 g2 g3; have G1 := Lib.hid g1; have G2 := Lib.hid (((Mod.refl (fun _ => False) wr).alloc (.cells #[.int .u8 k] 5)).new g2 (fun i e => by cases e)); clear g1 g2 g3)
    go_ret
    exact ⟨_, rfl, G1.out, G2.out⟩
set_option maxRecDepth 100000 in
set_option maxHeartbeats 400000 in
theorem jEncoded (v : Value) (bs : List Nat) (w : World) (hs : BS w v bs) (h : bs.length < 128) :
    Calls Try.prog 23 #[v] w fun e w' => ∃ v', e = .returned v' ∧ OB w' w.heap.size v' (bs.length :: bs) ∧ Mod (fun _ => False) w w' := by
  have HS := Lib.hid hs
  obtain ⟨m, hm⟩ : ∃ m, m = bs.length := ⟨_, rfl⟩
  obtain ⟨a, c, rfl⟩ : ∃ a c, v = .slice a m c := by
    rw [hm]
    rcases hs.sl with ⟨rfl, h2, _⟩ | ⟨x, c, rfl, _, _⟩
    · exact ⟨none, 0, by rw [h2]⟩
    · exact ⟨some x, c, rfl⟩
  rw [← hm] at h ⊢
  have HM := Lib.hid hm
  have hw : IntKind.u64.wrap (m : Int) = m := by unfold IntKind.wrap; simp [IntKind.bits, IntKind.signed]; omega
  clear hs hm
  go_enter Try.func23, Try.ntmps23
  go_wp2_with fail
  refine (jUint m w h).mono ?_; rintro e w1 ⟨v1, rfl, o1, m1⟩
  have O1 := Lib.hid o1
  have M1 := Lib.hid m1
  have HS1 := Lib.hid (HS.out.new m1)
  clear o1 m1
  go_wp2_with (at_builtin; refine app1 (base := w.heap.size) rfl (.tmp 6) (.tmp 7) 37 5 1 rfl Try.underlying37 infoU8' rfl (by decide) _ _ _ _ _ _ M1.out.size O1.out rfl rfl HS1.out.sl (byts_one _) (by decide) (by rw [← HM.out]; show (1 + m) * 1 ≤ _; omega) ?_; intro v' w3 g1 g2 g3; have G1 := Lib.hid g1; have G2 := Lib.hid g2; clear g1 g2 g3)
  go_ret
  refine ⟨_, rfl, ?_, M1.out.new G2.out fun i e => (O1.out.lt i e).1⟩
  have h1 := G1.out
  rw [← byts_append] at h1
  have h2 : OB w3 w.heap.size v' ([m] ++ bs) := by
    show World.ownsRow _ _ _ _ _ _ _
    rw [List.length_append]
    exact h1
  exact h2
theorem bits_andNot128 : ∀ k : Fin 128, bits .andNot .u8 (k.1 : Int) 128 = k.1 := by decide +kernel
set_option maxRecDepth 100000 in
set_option maxHeartbeats 1000000 in
theorem jCut (v : Value) (k : Nat) (w : World) (hs : BS w v [k]) (h : k < 128) :
    Calls Try.prog 72 #[v] w fun e w' => (∃ a c, e = .returned (.tuple #[.int .u64 k, .slice a 0 c, .bool true])) ∧ Mod (fun _ => False) w w' := by
  obtain ⟨x, c, rfl, p0⟩ := hs.byt 0 (Nat.lt_succ_self 0)
  rw [show x.add 0 = x by simp [Addr.add]] at p0
  replace p0 : w.cell? x = some (.int .u8 k) := p0
  have ha := bits_andNot128 ⟨k, h⟩
  have hw : IntKind.u64.wrap (k : Int) = k := by unfold IntKind.wrap; simp [IntKind.bits, IntKind.signed]; omega
  have ho : bits .or .u64 0 (k : Int) = k := by
    have := bits_or_u64_nat 0 k (by decide) (by omega)
    rw [Nat.zero_or] at this
    exact this
  have hl : (k : Int) < 128 := by omega
  have hl' : k < 128 := h
  have hw1 : IntKind.i64.wrap 1 = 1 := by decide
  show Calls Try.prog 72 #[.slice (some x) 1 c] w _
  clear hs
  go_enter Try.func72, Try.ntmps72
  go_wp2_with fail
  go_loopw [5, 10] (fun n i wr => n = .int .u64 0 ∧ i = .int .i64 0 ∧ wr = w) (fun _ _ _ => 0)
  case atStart => exact ⟨rfl, rfl, rfl⟩
  case round =>
    obtain ⟨rfl, rfl, rfl⟩ := hrel
    go_wp2_with fail
    refine wp_region2 [] [] (by kernel_rfl) (by kernel_rfl) ?_
    repeat (first | (refine reg_anyT (by rfl) (fun K hK => ?_); go_simp; refine hK _ _ ?_; clear hK K) | (refine reg_read (by rfl) (fun K hK => ?_); go_simp; refine hK _ _ ?_; clear hK K))
    refine reg_nil (fun nd => ?_)
    go_wp2_with fail
    all_goals
      go_ret3
      exact ⟨⟨_, _, rfl⟩, (Mod.refl (fun _ => False) wr).drewN _⟩
set_option maxRecDepth 100000 in
set_option maxHeartbeats 400000 in
theorem jToUint (v : Value) (k : Nat) (w : World) (hs : BS w v [k]) (h : k < 128) :
    Calls Try.prog 62 #[v] w fun e w' => e = .returned (.tuple #[.int .u64 k, .int .i64 0]) ∧ Mod (fun _ => False) w w' := by
  have HC := Lib.hid (jCut v k w hs h)
  clear hs
  go_enter Try.func62, Try.ntmps62
  go_wp2_with fail
  refine HC.out.mono ?_; rintro e w1 ⟨⟨a, c, rfl⟩, m1⟩
  go_wp2_with fail
  go_ret2
  exact ⟨rfl, m1⟩
set_option maxRecDepth 100000 in
set_option maxHeartbeats 400000 in
theorem jLongNil (v : Value) (w : World) (hs : BS w v []) :
    Calls Try.prog 38 #[v] w fun e w' => e = .returned (.tuple #[.int .i64 0, .int .i64 0, .bool false]) ∧ Mod (fun _ => False) w w' := by
  obtain ⟨a, c, rfl⟩ : ∃ a c, v = .slice a 0 c := by
    rcases hs.sl with ⟨rfl, _, _⟩ | ⟨x, c, rfl, _, _⟩
    · exact ⟨none, 0, rfl⟩
    · exact ⟨some x, c, rfl⟩
  have hmin : min (2 : Int) 0 = 0 := by decide
  clear hs
  go_enter Try.func38, Try.ntmps38
  go_wp2_with fail
  go_loopw [5] (fun k wr => k = .int .i64 1 ∧ wr = w) (fun _ _ => 0)
  case atStart => exact ⟨rfl, rfl⟩
  case round =>
    obtain ⟨rfl, rfl⟩ := hrel
    go_wp2_with fail
    go_ret3
    exact ⟨rfl, Mod.refl _ _⟩
set_option maxRecDepth 100000 in
set_option maxHeartbeats 400000 in
theorem jLong (v : Value) (k : Nat) (bs : List Nat) (w : World) (hs : BS w v (k :: bs)) (h : k < 128) :
    Calls Try.prog 38 #[v] w fun e w' => e = .returned (.tuple #[.int .i64 1, .int .i64 k, .bool true]) ∧ Mod (fun _ => False) w w' := by
  obtain ⟨m, hm⟩ : ∃ m, m = (k :: bs).length := ⟨_, rfl⟩
  obtain ⟨x, c, e, p0⟩ := hs.byt 0 (Nat.succ_pos _)
  rw [← hm] at e
  have hm1 : 1 ≤ m := by rw [hm]; exact Nat.succ_pos _
  subst e
  have hmc : m ≤ c := hs.cap x m c (by rw [hm])
  have hS1 : BS w (.slice (some x) 1 c) [k] := ⟨.inr ⟨x, c, rfl, rfl, fun j u hj => by
    rcases hs.sl with ⟨e, _⟩ | ⟨x', c', e, _, hc⟩
    · cases e
    · cases e
      match j, hj with
      | 0, hj => exact hc 0 u hj
      | j + 1, hj => simp [byts] at hj⟩, fun _ _ _ e => by cases e; omega⟩
  have HT := Lib.hid (jToUint _ k w hS1 h)
  have hmin : 1 ≤ min (2 : Int) m := by omega
  have hmi : (1 : Int) ≤ m := by omega
  have hci : (1 : Int) ≤ c := by omega
  have hci2 : 1 ≤ c := by omega
  have hw : IntKind.i64.wrap (k : Int) = k := wrapI (by omega) (by omega)
  have h4 : (k : Int) ≤ 4096 := by omega
  clear hs hS1 p0 hm
  go_enter Try.func38, Try.ntmps38
  go_wp2_with fail
  go_loopw [5] (fun i wr => i = .int .i64 1 ∧ wr = w) (fun _ _ => 0)
  case atStart => exact ⟨rfl, rfl⟩
  case round =>
    obtain ⟨rfl, rfl⟩ := hrel
    go_wp2_with fail
    refine HT.out.mono ?_; rintro e w1 ⟨rfl, m1⟩
    go_wp2_with fail
    go_ret3
    exact ⟨rfl, m1⟩
end Go.Proofs.Ytdlplablojdjlaa
