/- Package files: right, of the two names that the journal has; no condition. -/
import Derived.Test.YtdlplablojdjlaaJd
import Derived.Lib.ConvBytes
namespace Go.Proofs.Ytdlplablojdjlaa
open Go Go.RowKit Go.IntWalk

/-- The two names. -/
def sB : ByteArray := ⟨#[98, 105, 116, 115]⟩
def sN : ByteArray := ⟨#[98, 105, 116, 115, 46, 110, 101, 119]⟩
def nmOf (o : Bool) : ByteArray := if o then sN else sB
def nmB (o : Bool) : List Nat := if o then [98, 105, 116, 115, 46, 110, 101, 119] else [98, 105, 116, 115]
def okC (x : Nat) : Prop := 97 ≤ x ∧ x ≤ 122 ∨ x = 46
theorem nm_ok (o : Bool) : ∀ x ∈ nmB o, okC x := by cases o <;> unfold nmB okC <;> simp
set_option maxRecDepth 100000 in
set_option maxHeartbeats 400000 in
theorem jOdd (x : Nat) (w : World) (h : okC x) : Calls Try.prog 66 #[.int .u8 x] w fun e w' => e = .returned (.bool false) ∧ w = w' := by
  rcases h with ⟨h1, h2⟩ | rfl
  · have h1' : (97 : Int) ≤ x := by omega
    have h2' : (x : Int) ≤ 122 := by omega
    go_enter Try.func66, Try.ntmps66
    go_wp2_with fail
    go_ret
    exact ⟨rfl, rfl⟩
  · go_enter Try.func66, Try.ntmps66
    go_wp2_with fail
    go_ret
    exact ⟨rfl, rfl⟩
set_option maxRecDepth 100000 in
set_option maxHeartbeats 400000 in
theorem jIndexF (v : Value) (bs : List Nat) (w : World) (hs : BS w v bs) (h : ∀ x ∈ bs, okC x) (hb : bs.length ≤ 1048576) :
    Calls Try.prog 73 #[v, .func (.func 66) #[] #[]] w fun e w' => e = .returned (.int .i64 (-1)) ∧ w = w' := by
  obtain ⟨m, hm⟩ : ∃ m, m = bs.length := ⟨_, rfl⟩
  obtain ⟨a, c, rfl⟩ : ∃ a c, v = .slice a m c := by
    rw [hm]
    rcases hs.sl with ⟨rfl, h2, _⟩ | ⟨x, c, rfl, _, _⟩
    · exact ⟨none, 0, by rw [h2]⟩
    · exact ⟨some x, c, rfl⟩
  have HS := Lib.hid hs
  have HM := Lib.hid hm
  have HO := Lib.hid h
  clear hs hm h
  go_enter Try.func73, Try.ntmps73
  go_wp2_with fail
  go_loopw [8] (fun i wr => ∃ k : Nat, i = .int .i64 k ∧ k ≤ m ∧ wr = w) (fun i _ => m - (intOf i).toNat)
  case atStart => exact ⟨0, rfl, Nat.zero_le _, rfl⟩
  case round =>
    obtain ⟨k, rfl, hk, rfl⟩ := hrel
    by_cases hkm : k < m
    · have hkm' : (k : Int) < m := by omega
      obtain ⟨x, c', e, p⟩ := HS.out.byt k (by rw [← HM.out]; exact hkm)
      cases e
      have ho := HO.out (bs.getD k 0) (by rw [List.getD_eq_getElem?_getD, List.getElem?_eq_getElem (by rw [← HM.out]; exact hkm)]; exact List.getElem_mem _)
      obtain ⟨y, hy⟩ : ∃ y, y = bs.getD k 0 := ⟨_, rfl⟩
      rw [← hy] at p ho
      have HJ := Lib.hid (fun w => jOdd y w ho)
      clear hy ho
      have hk2 : k < 1048576 := by omega
      go_wp2_with fail
      refine (HJ.out wr).mono ?_; rintro e w' ⟨rfl, rfl⟩
      go_wp2_with fail
      exact ⟨⟨k + 1, by go_num, by omega, by first | rfl | trivial⟩, by simp [intOf]; omega⟩
    · have hkm' : ¬ (k : Int) < m := by omega
      go_wp2_with fail
      go_ret
      exact ⟨rfl, rfl⟩
set_option maxRecDepth 100000 in
set_option maxHeartbeats 400000 in
theorem jContainsF (v : Value) (bs : List Nat) (w : World) (hs : BS w v bs) (h : ∀ x ∈ bs, okC x) (hb : bs.length ≤ 1048576) :
    Calls Try.prog 67 #[v, .func (.func 66) #[] #[]] w fun e w' => e = .returned (.bool false) ∧ w = w' := by
  have HI := Lib.hid (jIndexF v bs w hs h hb)
  clear hs h
  go_enter Try.func67, Try.ntmps67
  go_wp2_with fail
  refine HI.out.mono ?_; rintro e w1 ⟨rfl, rfl⟩
  go_wp2_with fail
  go_ret
  exact ⟨rfl, rfl⟩
theorem conv_nm (o : Bool) (w : World) : ∃ c w', (convert 9 37 (.string (nmOf o))).run Try.prog w = .ok (.slice (some ⟨w.heap.size, 0, none⟩) (nmB o).length c) w' ∧ BS w' (.slice (some ⟨w.heap.size, 0, none⟩) (nmB o).length c) (nmB o) ∧ Mod (fun _ => False) w w' := by
  have hsz : (nmOf o).size = (nmB o).length := by cases o <;> rfl
  have h := Lib.run_convert_string_bytes (P := Try.prog) w 9 37 5 (nmOf o) Try.underlying9 Try.underlying37 Try.underlying5
  rw [hsz] at h
  refine ⟨_, _, h, ⟨.inr ⟨_, _, rfl, by rw [byts_len, Nat.mul_one], fun j u hj => ?_⟩, fun X n c e => ?_⟩, ⟨rfl, rfl, rfl, ?_, fun k hk _ => Lib.bytesWorld_at_old w _ _ k hk⟩⟩
  · have hl := (List.getElem?_eq_some_iff.1 hj).1
    rw [byts_len] at hl
    rw [add_g, Lib.bytesWorld_cell w _ _ j (by rw [hsz]; exact hl), ← hj]
    have h2 : ∀ (o : Bool) (j : Fin (nmB o).length), ((nmOf o).data.toList.getD j.1 0).toNat = (nmB o).getD j.1 0 := by
      intro o
      cases o <;> decide +kernel
    have h3 := h2 o ⟨j, hl⟩
    dsimp only at h3
    rw [h3]
    unfold byts
    rw [List.getElem?_map, List.getD_eq_getElem?_getD, List.getElem?_eq_getElem hl]
    rfl
  · cases e
    have := grownCap_ge w (nmB o).length 0 5
    exact this
  · rw [Lib.bytesWorld_size]; omega
set_option maxRecDepth 100000 in
set_option maxHeartbeats 1000000 in
theorem jRight (v : Value) (os : List Bool) (w : World) (hs : Sl w v 1 os.length (os.map fun o => Value.string (nmOf o))) (hl : os.length ≤ 1000) :
    Calls Try.prog 53 #[v] w fun e w' => e = .returned (.bool true) ∧ Mod (fun _ => False) w w' := by
  obtain ⟨m, hm⟩ : ∃ m, m = os.length := ⟨_, rfl⟩
  obtain ⟨a, c, rfl⟩ : ∃ a c, v = .slice a m c := by
    rw [hm]
    rcases hs with ⟨rfl, h2, _⟩ | ⟨x, c, rfl, _, _⟩
    · exact ⟨none, 0, by rw [h2]⟩
    · exact ⟨some x, c, rfl⟩
  have HS := Lib.hid hs
  have HM := Lib.hid hm
  have hml : m ≤ 1000 := by omega
  clear hs hm hl
  go_enter Try.func53, Try.ntmps53
  go_wp2_with fail
  go_loopw [8] (fun i wr => ∃ k : Nat, i = .int .i64 k ∧ k ≤ m ∧ Hid (Mod (fun _ => False) w wr)) (fun i _ => m - (intOf i).toNat)
  case atStart => exact ⟨0, rfl, Nat.zero_le _, Mod.refl _ _⟩
  case round =>
    obtain ⟨k, rfl, hk, hmm⟩ := hrel
    by_cases hkm : k < m
    · have hkm' : (k : Int) < m := by omega
      obtain ⟨o, ho⟩ : ∃ o, os[k]? = some o := ⟨_, List.getElem?_eq_getElem (by rw [← HM.out]; exact hkm)⟩
      obtain ⟨x, hx, hc⟩ : ∃ x, a = some x ∧ w.cell? (x.add k) = some (.string (nmOf o)) := by
        rcases HS.out with ⟨e, e2, _⟩ | ⟨x, c', e, _, h3⟩
        · exfalso; have := HM.out; omega
        · cases e; exact ⟨x, rfl, h3 k _ (by rw [List.getElem?_map, ho]; rfl)⟩
      subst hx
      have p := hmm.out.cell hc (fun h => h)
      clear hc ho
      have hsz1 : ¬ ((nmOf o).size : Int) < 1 := by cases o <;> decide
      have hsz2 : ¬ (80 : Int) < (nmOf o).size := by cases o <;> decide
      obtain ⟨c', w2, hcv, hb2, hm2⟩ := conv_nm o wr
      have HB2 := Lib.hid (jContainsF _ _ w2 hb2 (nm_ok o) (by cases o <;> decide))
      have HM2 := Lib.hid (hmm.out.trans hm2)
      obtain ⟨S, hS⟩ : ∃ S, S = nmOf o := ⟨_, rfl⟩
      rw [← hS] at p hsz1 hsz2 hcv
      obtain ⟨z, hz⟩ : ∃ z, z = (nmB o).length := ⟨_, rfl⟩
      rw [← hz] at HB2 hcv
      clear hS hb2 hm2 hmm hz
      go_wp2_with fail
      refine HB2.out.mono ?_; rintro e w3 ⟨rfl, rfl⟩
      go_wp2_with fail
      exact ⟨⟨k + 1, by go_num, by omega, HM2.out⟩, by simp [intOf]; omega⟩
    · have hkm' : ¬ (k : Int) < m := by omega
      go_wp2_with fail
      go_ret
      exact ⟨rfl, hmm.out⟩
end Go.Proofs.Ytdlplablojdjlaa
