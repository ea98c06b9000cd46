/- The reference of member: Tick; no condition. -/
import Derived.Test.YtagiodagbfahpaaSmG
namespace Go.Proofs.Ytagiodagbfahpaa
open Go Go.RowKit

theorem owns_off {w w' : World} {base B : Nat} {e : TypeId} {size : Nat} {u : Value} {n : Nat} {xs : List Value} (h : w.ownsRow base e size u n xs) (hm : Mod (· = B) w w') (hB : u.ownBlock ≠ some B) : w'.ownsRow base e size u n xs := by
  refine owns_apart (v := .slice (some ⟨B, 0, none⟩) 0 0) h (hm.mono fun k _ e => ?_) fun k h1 h2 => hB ?_
  · show (Value.slice (some ⟨B, 0, none⟩) 0 0).ownBlock = some k
    rw [e]
    rfl
  · have : B = k := by simpa [Value.ownBlock] using h1
    rw [this]
    exact h2
set_option maxRecDepth 100000 in
set_option maxHeartbeats 4000000 in
theorem refVTickBad (now pat : Int) (b : Nat) (w : World) (h : ¬ (0 ≤ now ∧ now ≤ 1099511627776 ∧ 1 ≤ pat ∧ pat ≤ 1048576)) :
    Calls Try.prog 37 #[.pointer (some ⟨b, 0, none⟩), .int .i64 now, .int .i64 pat] w fun e w' => e = .returned (.tuple #[.slice none 0 0, .int .i64 1]) ∧ w = w' := by
  by_cases hn : 0 ≤ now ∧ now ≤ 1099511627776
  · have e1 := in_yes hn
    have hp : ¬ (1 ≤ pat ∧ pat ≤ 1048576) := by omega
    have HP := Lib.hid hp
    clear hn hp h
    go_enter Try.func37, Try.ntmps37
    go_wp2_with fail
    refine (refMoment _ _).mono ?_; rw [e1]; rintro e w' ⟨rfl, rfl⟩
    clear e1
    go_wp2_with fail
    all_goals first | (go_ret2; exact ⟨rfl, rfl⟩) | (exfalso; apply HP.out; omega)
  · have e1 := in_no hn
    clear hn h
    go_enter Try.func37, Try.ntmps37
    go_wp2_with fail
    refine (refMoment _ _).mono ?_; rw [e1]; rintro e w' ⟨rfl, rfl⟩
    clear e1
    go_wp2_with fail
    go_ret2
    exact ⟨rfl, rfl⟩

set_option maxRecDepth 100000 in
set_option maxHeartbeats 4000000 in
theorem refVTick (now pat : Int) (b base : Nat) (S : Int × Rc) (most : Int) (ks : List (Int × Rc)) (w : World) (h : RW w b base S most ks) (hok : OkV most ks) (hm : most ≤ 64) (hbase : base ≤ w.heap.size) (hn : 0 ≤ now ∧ now ≤ 1099511627776) (hp : 1 ≤ pat ∧ pat ≤ 1048576) :
    Calls Try.prog 37 #[.pointer (some ⟨b, 0, none⟩), .int .i64 now, .int .i64 pat] w fun e w' => (∃ v, e = .returned (.tuple #[v, .int .i64 0]) ∧ w'.ownsRow w.heap.size 3 1 v (fallen now pat ks).length (intL (fallen now pat ks))) ∧ RW w' b base S most (tickL now pat ks) ∧ Mod (· = b) w w' := by
  obtain ⟨a, cap, _, c3, f3, he, hbk, _, _⟩ := h.at
  have e1 := in_yes hn
  have hp1 : ¬ pat < 1 := by omega
  have hp2 : ¬ 1048576 < pat := by omega
  have hlen : ks.length ≤ 64 := by have := hok.len; omega
  have H := Lib.hid h
  have HOK := Lib.hid hok
  have HNP := Lib.hid (show (0 ≤ now ∧ now ≤ 1099511627776) ∧ 1 ≤ pat ∧ pat ≤ 1048576 from ⟨hn, hp⟩)
  have hb : b < w.heap.size := World.block_lt_of_cell? w _ c3
  clear h hok hm hn hp
  go_enter Try.func37, Try.ntmps37
  go_wp2_with fail
  refine (refMoment _ _).mono ?_; rw [e1]; rintro e w' ⟨rfl, rfl⟩
  clear e1
  go_wp2_with fail
  clear hp1 hp2
  go_loopw [9, 10, 11] (fun v u i wr => ∃ k : Nat, i = .int .i64 k ∧ k ≤ ks.length ∧ Hid (wr.ownsRow w.heap.size 3 1 v (fallen now pat (ks.take k)).length (intL (fallen now pat (ks.take k)))) ∧ Hid (wr.ownsRow w.heap.size TMb 4 u (tickL now pat (ks.take k)).length (recL (tickL now pat (ks.take k)))) ∧ Hid (Apart v u) ∧ Mod (fun _ => False) w wr) (fun _ _ i _ => ks.length - (intOf i).toNat)
  case atStart => exact ⟨0, rfl, Nat.zero_le _, World.ownsRow_nil _ _ _ _, World.ownsRow_nil _ _ _ _, Apart.nil _, Mod.refl _ _⟩
  case round =>
    obtain ⟨k, rfl, hk, ho1, ho2, hap, hm⟩ := hrel
    have k3 := hm.cell c3 (fun h => h)
    by_cases hlt : (k : Int) < ks.length
    · obtain ⟨⟨x, r⟩, hkr⟩ : ∃ q, ks[k]? = some q := ⟨_, List.getElem?_eq_getElem (by omega)⟩
      obtain ⟨X, rfl, p0, p1, p2, p3⟩ := recEl (he.out.new hm) (Nat.le_refl _) hkr
      have HTK := Lib.hid (show ks.take (k + 1) = ks.take k ++ [(x, r)] by rw [List.take_add_one, hkr]; rfl)
      have hkl : k < ks.length := by omega
      have hq := HOK.out.each _ (List.mem_of_getElem? hkr)
      obtain ⟨rs, ru, rb⟩ := r
      dsimp only at p0 p1 p2 p3 hq
      have ma := (Mod.refl (fun _ => False) wr).alloc (.cells #[.int .i64 x, .int .i64 rs, .int .i64 ru, .int .i64 rb] TMb)
      have XA := Lib.hid (Blk.new wr #[.int .i64 x, .int .i64 rs, .int .i64 ru, .int .i64 rb] TMb)
      have OA := Lib.hid (ho1.out.alloc (.cells #[.int .i64 x, .int .i64 rs, .int .i64 ru, .int .i64 rb] TMb))
      have OB := Lib.hid (ho2.out.alloc (.cells #[.int .i64 x, .int .i64 rs, .int .i64 ru, .int .i64 rb] TMb))
      have MA := Lib.hid (hm.trans ma)
      have HL1 : Hid (∀ i, u9.ownBlock = some i → i < wr.heap.size) := fun i hi => (ho1.out.lt i hi).2
      have HL2 : Hid (∀ i, u10.ownBlock = some i → i < wr.heap.size) := fun i hi => (ho2.out.lt i hi).2
      have HSN := Lib.hid (tickL_snoc now pat (ks.take k) (x, ⟨rs, ru, rb⟩))
      have HFN := Lib.hid (fallen_snoc now pat (ks.take k) (x, ⟨rs, ru, rb⟩))
      have HTL : Hid ((tickL now pat (ks.take k)).length ≤ 64) := by
        show _ ≤ _
        have h1 := tickL_len now pat (ks.take k)
        rw [List.length_take] at h1
        omega
      have hfl : (fallen now pat (ks.take k)).length ≤ 64 := by
        unfold fallen
        rw [keys_len]
        have h1 := List.length_filter_le (fell now pat) (ks.take k)
        have h2 : (ks.take k).length ≤ k := List.length_take_le _ _
        omega
      have hnp := HNP.out
      obtain ⟨ag, hag⟩ : ∃ a, a = now - rb := ⟨_, rfl⟩
      have hwr : IntKind.i64.wrap (now - rb) = ag := by rw [hag]; unfold IntKind.wrap; simp [IntKind.bits, IntKind.signed]; omega
      obtain ⟨p4, hp4⟩ : ∃ p, p = 4 * pat := ⟨_, rfl⟩
      have hw4 : IntKind.i64.wrap (4 * pat) = p4 := by rw [hp4]; unfold IntKind.wrap; simp [IntKind.bits, IntKind.signed]; omega
      have HG : Hid (gone now pat (x, ⟨rs, ru, rb⟩) = (ru == 3 && decide (p4 ≤ ag))) := by show _ = _; unfold gone; rw [hp4, hag]
      have HF : Hid (fell now pat (x, ⟨rs, ru, rb⟩) = (ru == 2 && decide (pat ≤ ag))) := by show _ = _; unfold fell; rw [hag]
      have hk1 : ks.length - (k + 1) < ks.length - k := by omega
      obtain ⟨B, hB⟩ : ∃ B, B = wr.heap.size := ⟨_, rfl⟩
      have HBW : Hid (w.heap.size ≤ B) := by show _ ≤ _; rw [hB]; exact hm.size
      rw [← hB] at XA HL1 HL2
      clear hkr hq ma hag hp4 hnp hm ho1 ho2
      go_upto_region 10 with fail
      rw [← hB]
      generalize wr.alloc (.cells #[.int .i64 x, .int .i64 rs, .int .i64 ru, .int .i64 rb] TMb) = wa at *
      have x0 := XA.out.cell 0; have x1 := XA.out.cell 1; have x2 := XA.out.cell 2; have x3 := XA.out.cell 3
      have y2 := XA.out.frozen 2; have y3 := XA.out.frozen 3
      clear p0 p1 p2 p3 hB k3
      by_cases h3 : ru = 3
      · have h3' : (ru == 3) = true := by simpa using h3
        have h2' : (ru == 2) = false := by simp; omega
        have FT : Hid (fell now pat (x, ⟨rs, ru, rb⟩) = false) := by show _ = _; rw [HF.out, h2']; rfl
        by_cases hg : p4 ≤ ag
        · have GT : Hid (gone now pat (x, ⟨rs, ru, rb⟩) = true) := by show _ = _; rw [HG.out, h3']; simpa using hg
          clear h3
          go_wp2_with fail
          refine ⟨⟨k + 1, by go_num, by omega, ?_, ?_, hap, MA.out⟩, by simp [intOf]; omega⟩
          · show World.ownsRow _ _ _ _ _ _ _
            rw [HTK.out, HFN.out, FT.out]
            simpa using OA.out
          · show World.ownsRow _ _ _ _ _ _ _
            rw [HTK.out, HSN.out]
            unfold tick1
            rw [GT.out, if_pos rfl, List.append_nil]
            exact OB.out
        · have hg' : decide (p4 ≤ ag) = false := by simpa using hg
          have GT : Hid (gone now pat (x, ⟨rs, ru, rb⟩) = false) := by show _ = _; rw [HG.out, hg']; simp
          clear h3 hg
          go_wp2_with (at_builtin; refine app1 (base := w.heap.size) rfl (.tmp 72) (.tmp 74) TMs TMb 4 rfl Try.underlying22 infoKn rfl (by decide) _ _ _ _ 1 [.int .i64 x, .int .i64 rs, .int .i64 ru, .int .i64 rb] (by have := MA.out.size; simp; omega) (OB.out.alloc _) rfl rfl (sl_new wa _ _) (by simp [Value.oneCell']) (by decide) (by have := HTL.out; omega) ?_; intro v' w' g1 g2 g3; have G1 := Lib.hid g1; have G2 := Lib.hid (((Mod.refl _ wa).alloc (.cells #[.int .i64 x, .int .i64 rs, .int .i64 ru, .int .i64 rb] TMb)).trans g2); have G3 := Lib.hid g3; have hog := own_ge OB.out; clear g1 g2 g3)
          refine ⟨⟨k + 1, by go_num, by omega, ?_, ?_, (G3.out |> Apart.step hap.out.symm OA.out (by simp)).symm, MA.out.new G2.out hog⟩, by simp [intOf]; omega⟩
          · show World.ownsRow _ _ _ _ _ _ _
            rw [HTK.out, HFN.out, FT.out]
            simpa using owns_apart OA.out G2.out hap.out.symm
          · show World.ownsRow _ _ _ _ _ _ _
            rw [HTK.out, HSN.out]
            unfold tick1
            rw [GT.out, FT.out, if_neg (by decide), if_neg (by decide), recL_snoc, List.length_append]
            exact G1.out
      · have h3' : (ru == 3) = false := by simpa using h3
        have GT : Hid (gone now pat (x, ⟨rs, ru, rb⟩) = false) := by show _ = _; rw [HG.out, h3']; rfl
        by_cases h2 : ru = 2
        · have h2' : (ru == 2) = true := by simpa using h2
          by_cases hg : pat ≤ ag
          · have FT : Hid (fell now pat (x, ⟨rs, ru, rb⟩) = true) := by show _ = _; rw [HF.out, h2']; simpa using hg
            clear h3 h2
            go_upto_region 13 with (at_builtin; refine app1 (base := w.heap.size) rfl (.tmp 64) (.tmp 67) 41 3 1 rfl Try.underlying41 infoInt rfl (by decide) _ _ _ _ 1 [.int .i64 x] (by have := MA.out.size; simp; omega) (OA.out.alloc _) rfl rfl (sl_new wa #[.int .i64 x] 3) (by simp [Value.oneCell']) (by decide) (by omega) ?_; intro v5 w5 g1 g2 g3; have F1 := Lib.hid g1; have F2 := Lib.hid (((Mod.refl _ wa).alloc (.cells #[.int .i64 x] 3)).trans g2); have F3 := Lib.hid g3; have hog1 := own_ge OA.out; clear g1 g2 g3)
            have hu9 : u9.ownBlock ≠ some B := fun h => by have := HL1.out _ h; omega
            have hu10 : u10.ownBlock ≠ some B := fun h => by have := HL2.out _ h; omega
            have hBa := XA.out.lt
            have X5 := XA.out.mod F2.out hu9
            have M5 := MA.out.new F2.out hog1
            have AP5 := Lib.hid (F3.out |> Apart.step hap.out OB.out (by simp))
            have OB5 := owns_apart OB.out F2.out hap.out
            have hv5 : v5.ownBlock ≠ some B := by
              intro h
              rcases F3.out with e | e
              · rw [e] at h; exact hu9 h
              · rw [e] at h
                simp at h
                omega
            clear x0 x1 x2 x3 y2 y3
            have x0 := X5.cell 0; have x1 := X5.cell 1; have x2 := X5.cell 2; have x3 := X5.cell 3
            have y2 := X5.frozen 2; have y3 := X5.frozen 3
            have m6 := ((Mod.refl (· = B) w5).set1 2 (.int .i64 3)).set1 3 (.int .i64 now)
            have X6 : Blk ((w5.setCell ⟨B, 2, none⟩ (.int .i64 3)).setCell ⟨B, 3, none⟩ (.int .i64 now)) B #[.int .i64 x, .int .i64 rs, .int .i64 3, .int .i64 now] TMb := (X5.set 2 _).set 3 _
            have O6 := Lib.hid (owns_off F1.out m6 hv5)
            have OB6 := Lib.hid (owns_off OB5 m6 hu10)
            have M6 := Lib.hid (M5.new m6 (fun i e => by have := HBW.out; omega))
            have XX6 := Lib.hid X6
            clear X5 M5 OB5 hv5 hu9 hu10 m6 X6 hBa hog1
            go_upto_region 15 with fail
            generalize (w5.setCell ⟨B, 2, none⟩ (.int .i64 3)).setCell ⟨B, 3, none⟩ (.int .i64 now) = w6 at *
            clear x0 x1 x2 x3 y2 y3 F1 F2 F3
            have x0 := XX6.out.cell 0; have x1 := XX6.out.cell 1; have x2 := XX6.out.cell 2; have x3 := XX6.out.cell 3
            go_wp2_with (at_builtin; refine app1 (base := w.heap.size) rfl (.tmp 72) (.tmp 74) TMs TMb 4 rfl Try.underlying22 infoKn rfl (by decide) _ _ _ _ 1 [.int .i64 x, .int .i64 rs, .int .i64 3, .int .i64 now] (by have := M6.out.size; simp; omega) (OB6.out.alloc _) rfl rfl (sl_new w6 _ _) (by simp [Value.oneCell']) (by decide) (by have := HTL.out; omega) ?_; intro v' w' g1 g2 g3; have G1 := Lib.hid g1; have G2 := Lib.hid (((Mod.refl _ w6).alloc (.cells #[.int .i64 x, .int .i64 rs, .int .i64 3, .int .i64 now] TMb)).trans g2); have G3 := Lib.hid g3; have hog := own_ge OB6.out; clear g1 g2 g3)
            refine ⟨⟨k + 1, by go_num, by omega, ?_, ?_, (G3.out |> Apart.step AP5.out.symm O6.out (by simp)).symm, M6.out.new G2.out hog⟩, by simp [intOf]; omega⟩
            · show World.ownsRow _ _ _ _ _ _ _
              rw [HTK.out, HFN.out, FT.out, if_pos rfl, intL_append, List.length_append]
              exact owns_apart O6.out G2.out AP5.out.symm
            · show World.ownsRow _ _ _ _ _ _ _
              rw [HTK.out, HSN.out]
              unfold tick1
              rw [GT.out, FT.out, if_neg (by decide), if_pos rfl, recL_snoc, List.length_append]
              exact G1.out
          · have hg' : decide (pat ≤ ag) = false := by simpa using hg
            have FT : Hid (fell now pat (x, ⟨rs, ru, rb⟩) = false) := by show _ = _; rw [HF.out, hg']; simp
            clear h3 h2 hg
            go_wp2_with (at_builtin; refine app1 (base := w.heap.size) rfl (.tmp 72) (.tmp 74) TMs TMb 4 rfl Try.underlying22 infoKn rfl (by decide) _ _ _ _ 1 [.int .i64 x, .int .i64 rs, .int .i64 ru, .int .i64 rb] (by have := MA.out.size; simp; omega) (OB.out.alloc _) rfl rfl (sl_new wa _ _) (by simp [Value.oneCell']) (by decide) (by have := HTL.out; omega) ?_; intro v' w' g1 g2 g3; have G1 := Lib.hid g1; have G2 := Lib.hid (((Mod.refl _ wa).alloc (.cells #[.int .i64 x, .int .i64 rs, .int .i64 ru, .int .i64 rb] TMb)).trans g2); have G3 := Lib.hid g3; have hog := own_ge OB.out; clear g1 g2 g3)
            refine ⟨⟨k + 1, by go_num, by omega, ?_, ?_, (G3.out |> Apart.step hap.out.symm OA.out (by simp)).symm, MA.out.new G2.out hog⟩, by simp [intOf]; omega⟩
            · show World.ownsRow _ _ _ _ _ _ _
              rw [HTK.out, HFN.out, FT.out]
              simpa using owns_apart OA.out G2.out hap.out.symm
            · show World.ownsRow _ _ _ _ _ _ _
              rw [HTK.out, HSN.out]
              unfold tick1
              rw [GT.out, FT.out, if_neg (by decide), if_neg (by decide), recL_snoc, List.length_append]
              exact G1.out
        · have h2' : (ru == 2) = false := by simpa using h2
          have FT : Hid (fell now pat (x, ⟨rs, ru, rb⟩) = false) := by show _ = _; rw [HF.out, h2']; rfl
          clear h3 h2
          go_wp2_with (at_builtin; refine app1 (base := w.heap.size) rfl (.tmp 72) (.tmp 74) TMs TMb 4 rfl Try.underlying22 infoKn rfl (by decide) _ _ _ _ 1 [.int .i64 x, .int .i64 rs, .int .i64 ru, .int .i64 rb] (by have := MA.out.size; simp; omega) (OB.out.alloc _) rfl rfl (sl_new wa _ _) (by simp [Value.oneCell']) (by decide) (by have := HTL.out; omega) ?_; intro v' w' g1 g2 g3; have G1 := Lib.hid g1; have G2 := Lib.hid (((Mod.refl _ wa).alloc (.cells #[.int .i64 x, .int .i64 rs, .int .i64 ru, .int .i64 rb] TMb)).trans g2); have G3 := Lib.hid g3; have hog := own_ge OB.out; clear g1 g2 g3)
          refine ⟨⟨k + 1, by go_num, by omega, ?_, ?_, (G3.out |> Apart.step hap.out.symm OA.out (by simp)).symm, MA.out.new G2.out hog⟩, by simp [intOf]; omega⟩
          · show World.ownsRow _ _ _ _ _ _ _
            rw [HTK.out, HFN.out, FT.out]
            simpa using owns_apart OA.out G2.out hap.out.symm
          · show World.ownsRow _ _ _ _ _ _ _
            rw [HTK.out, HSN.out]
            unfold tick1
            rw [GT.out, FT.out, if_neg (by decide), if_neg (by decide), recL_snoc, List.length_append]
            exact G1.out
    · have hkn : k = ks.length := by omega
      have h1 := ho1.out
      have h2 := ho2.out
      rw [hkn, List.take_length] at h1 h2
      obtain ⟨a3, cap3, rfl, _, _, _⟩ := h2.els
      have O1 := Lib.hid h1
      have O2 := Lib.hid h2
      have f33 : wr.frozen? ⟨b, 5, none⟩ = false := by rw [hm.frozen (by show b < _; omega) (fun h => h)]; exact f3
      have HB := Lib.hid (hbk.out.mod hm (fun h => h))
      have hbw : base ≤ w.heap.size := hbase
      clear h1 h2 ho1 ho2 hkn
      go_wp2_with fail
      go_ret2
      refine ⟨⟨_, rfl, ?_⟩, ⟨H.out.lt, a3, cap3, HB.out.set 5 _, ?_⟩, (hm.mono (fun _ _ h => h.elim)).set1 5 _⟩
      · exact owns_modG (S := (· = b)) O1.out ((Mod.refl _ wr).set1 5 _) (fun i hi e => by omega)
      · exact (owns_modG (S := (· = b)) O2.out ((Mod.refl _ wr).set1 5 _) (fun i hi e => by omega)).mono hbw
end Go.Proofs.Ytagiodagbfahpaa
