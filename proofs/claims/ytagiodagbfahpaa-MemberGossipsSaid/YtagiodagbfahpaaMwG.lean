/- The walk of the statement MemberGossips: the call returns true and turns nothing that was there; no condition. -/
import Derived.Test.YtagiodagbfahpaaMcG
namespace Go.Proofs.Ytagiodagbfahpaa
open Go Go.RowKit

set_option maxRecDepth 100000 in
set_option maxHeartbeats 4000000 in
theorem memberGossips_walk (a1 : Option Addr) (len1 cap1 : Nat) (l : List (Int × Rc)) (seed : Int) (w : World) (hl : IsMems w a1 len1 l) (_ : (Lit.int .u64 seed).wf = true) :
    Calls Try.prog 6 #[.slice a1 len1 cap1, .int .u64 seed] w fun e w' => e = .returned (.bool true) ∧ Below w.heap.size w w' := by
  refine Calls.mono (R := fun e w' => e = .returned (.bool true) ∧ Mod (fun _ => False) w w') ?_ (fun e w' ⟨h1, h2⟩ => ⟨h1, h2.bel⟩)
  have HL := Lib.hid hl
  have hll : (len1 : Int) ≤ 9223372036854775807 := hl.2.1
  clear hl
  go_enter Try.func6, Try.ntmps6
  go_wp2_with fail
  refine (awake12 _).mono ?_; rintro e w1 ⟨rfl, m1⟩
  have M1 := Lib.hid m1
  clear m1
  go_wp2_with fail
  refine (memNew 65535 64 _ (by decide)).mono ?_; rintro e w2 ⟨rfl, va, m2, s2⟩
  have VA := Lib.hid va
  have M2 := Lib.hid (M1.out.trans m2)
  clear va m2
  go_wp2_with fail
  refine (memNew 65536 64 _ (by decide)).mono ?_; rintro e w3 ⟨rfl, vb, m3, s3⟩
  have VB := Lib.hid vb
  have VA3 := Lib.hid (VA.out.new m3)
  have M3 := Lib.hid (M2.out.trans m3)
  clear vb m3
  obtain ⟨ba, hba⟩ : ∃ b, b = w1.heap.size + 1 := ⟨_, rfl⟩
  obtain ⟨Ma, hMa⟩ : ∃ b, b = w1.heap.size := ⟨_, rfl⟩
  obtain ⟨bb, hbb⟩ : ∃ b, b = w2.heap.size + 1 := ⟨_, rfl⟩
  obtain ⟨Mb, hMb⟩ : ∃ b, b = w2.heap.size := ⟨_, rfl⟩
  have hz := M1.out.size
  have HN : Hid (w.heap.size ≤ ba ∧ w.heap.size ≤ Ma ∧ w.heap.size ≤ bb ∧ w.heap.size ≤ Mb ∧ ba ≠ bb ∧ ba ≠ Mb ∧ Ma ≠ bb ∧ Ma ≠ Mb) := by
    show _ ∧ _ ∧ _ ∧ _ ∧ _ ∧ _ ∧ _ ∧ _
    omega
  rw [← hba, ← hMa] at VA3
  rw [← hbb, ← hMb] at VB
  rw [← hba, ← hbb]
  clear hba hMa hbb hMb s2 s3 hz VA M2 M1
  by_cases hlen : 40 < (len1 : Int)
  · go_wp2_with fail
    go_ret
    exact ⟨rfl, M3.out⟩
  · go_wp2_with fail
    go_loopw [10] (fun v wr => ∃ (k : Nat) (Sa : Int × Rc) (ka : List (Int × Rc)), v = .int .i64 k ∧ k ≤ len1 ∧ Hid (VW wr ba Ma Sa 64 ka ∧ VW wr bb Mb (65536, ⟨0, 1, 0⟩) 64 [] ∧ OkV 64 ka ∧ Sa.1 = 65535 ∧ SelfOk Sa ∧ ka.length ≤ k) ∧ Mod (fun _ => False) w wr) (fun v _ => len1 - (intOf v).toNat)
    case atStart => exact ⟨0, _, [], rfl, Nat.zero_le _, ⟨VA3.out, VB.out, OkV.nil _ (by decide), rfl, by unfold SelfOk; decide, Nat.le_refl _⟩, M3.out⟩
    case round =>
      obtain ⟨k, Sa, ka, rfl, hk, hV, hm⟩ := hrel
      by_cases hlt : (k : Int) < len1
      · obtain ⟨t, ht⟩ : ∃ t, l[k]? = some t := ⟨_, List.getElem?_eq_getElem (by rw [HL.out.1]; omega)⟩
        obtain ⟨hki, X, rfl, c0, c1, c2, c3⟩ := (HL.out.new hm).2.2 k t ht
        have hkl2 : k < len1 := by omega
        have HM := Lib.hid hm
        have HA := Lib.hid (memHear t 1 ba Ma Sa 64 ka wr hV.out.1 hV.out.2.2.1 (by decide))
        unfold rcv at HA
        clear ht hki hm
        go_wp2_with fail
        refine HA.out.mono ?_; rintro e w4 ⟨rfl, v4, m4⟩
        have VA4 := Lib.hid v4
        have VB4 := Lib.hid (hV.out.2.1.mod m4 (by have := HN.out; omega) (by have := HN.out; omega))
        have HM4 := Lib.hid (HM.out.new m4 (by intro i hi; have := HN.out; omega))
        have HK := Lib.hid (hearK_len Sa 64 ka t 1)
        clear v4 m4 c0 c1 c2 c3
        go_wp2_with fail
        refine ⟨⟨k + 1, hearSelf Sa t 1, hearK Sa 64 ka t 1, by go_num, by omega, ⟨VA4.out, VB4.out, hV.out.2.2.1.hearK _ _ _, by rw [hearSelf_id]; exact hV.out.2.2.2.1, hV.out.2.2.2.2.1.hear _ _, by have := HK.out; have := hV.out.2.2.2.2.2; omega⟩, HM4.out⟩, by simp [intOf]; omega⟩
      · have HM := Lib.hid hm
        clear hm
        obtain ⟨wa, hwa⟩ : ∃ wa, wa = wr := ⟨_, rfl⟩
        rw [← hwa] at hV HM ⊢
        clear hwa
        have hl60 : len1 ≤ 40 := by omega
        have hkl : ka.length ≤ 40 := by have := hV.out.2.2.2.2.2; omega
        have HG := Lib.hid (memGossip seed 100 ba Ma Sa 64 ka wa hV.out.1 (by omega) hV.out.2.2.1.i64)
        obtain ⟨G, hG⟩ : ∃ G, G = gosL Sa seed 100 ka := ⟨_, rfl⟩
        rw [← hG] at HG
        have hGl : G.length ≤ 41 := by rw [hG]; have := gosL_len (S := Sa) (seed := seed) (k := 100) (ks := ka); omega
        have HGS : Hid (∀ q ∈ ka, q ∈ G) := by intro q hq; rw [hG]; exact gos_mem hV.out.2.2.1.rising (by omega) hq
        have HGE : Hid (Sa ∈ G) := by rw [hG]; unfold gosL; show _ ∈ _; simp
        clear hG
        obtain ⟨n, hn⟩ : ∃ n, n = G.length := ⟨_, rfl⟩
        rw [← hn] at HG hGl
        have HGN := Lib.hid hn
        clear hn
        go_wp2_with fail
        refine HG.out.mono ?_; rintro e w4 ⟨⟨v4, rfl, o4⟩, m4⟩
        have o4' := o4
        rcases o4.2 with ⟨rfl, h0⟩ | ⟨g, cap, cur, rfl, hg, hgh, hrest⟩
        · have h1 := List.length_pos_of_mem HGE.out
          have h2 := HGN.out
          omega
        have hgl : g < w4.heap.size := (Array.getElem?_eq_some_iff.1 hgh).1
        have hlt4 := hV.out.1.lt
        have hlt5 := hV.out.2.1.lt
        have HN4 : Hid (g ≠ ba ∧ g ≠ Ma ∧ g ≠ bb ∧ g ≠ Mb ∧ w.heap.size ≤ g) := by
          have := HM.out.size
          show _ ∧ _ ∧ _ ∧ _ ∧ _
          omega
        have HGA : Hid (wa.heap.size ≤ g) := hg
        have HBA : Hid (bb < wa.heap.size ∧ Mb < wa.heap.size) := hlt5
        have VA4 := Lib.hid (hV.out.1.new m4)
        have VB4 := Lib.hid (hV.out.2.1.new m4)
        have HM4 := Lib.hid (HM.out.trans m4)
        have O4 := Lib.hid o4'
        clear o4 o4' m4 hg hgh hrest hgl hlt4 hlt5 HM
        go_wp2_with fail
        go_loopw [12] (fun v wr => ∃ (k : Nat) (Sb : Int × Rc) (kb : List (Int × Rc)), v = .int .i64 k ∧ k ≤ n ∧ Hid (wr.ownsRow wa.heap.size TMb 4 (.slice (some ⟨g, 0, none⟩) n cap) n (recL (gz k G))) ∧ Hid (VW wr ba Ma Sa 64 ka ∧ VW wr bb Mb Sb 64 kb ∧ OkV 64 kb ∧ Sb.1 = 65536 ∧ HeardB ((G.take k).map zb) kb) ∧ Mod (fun _ => False) w wr) (fun v _ => n - (intOf v).toNat)
        case atStart => exact ⟨0, _, [], rfl, Nat.zero_le _, by simpa [gz] using O4, ⟨VA4.out, VB4.out, OkV.nil _ (by decide), rfl, by simpa using HeardB.nil⟩, HM4.out⟩
        case round =>
          obtain ⟨j, Sb, kb, rfl, hj, hO, hU, hm⟩ := hrel
          by_cases hlt2 : (j : Int) < n
          · obtain ⟨q, hq⟩ : ∃ q, G[j]? = some q := ⟨_, List.getElem?_eq_getElem (by have := HGN.out; omega)⟩
            obtain ⟨id, r⟩ := q
            have HQ := Lib.hid hq
            have c3 : wr.cell? ⟨g, j * 4 + 3, none⟩ = some (.int .i64 r.b) := by
              rw [hO.out.cellAt (j * 4 + 3) (by omega), recL_get _ j 3 id r (gz_get hq) (by decide)]; rfl
            have f3 : wr.frozen? ⟨g, j * 4 + 3, none⟩ = false := hO.out.frozenAt _
            have hjn : j < n := by omega
            have HM := Lib.hid hm
            clear hq hm
            go_upto_region 15 with fail
            have O5 := Lib.hid (show (wr.setCell ⟨g, j * 4 + 3, none⟩ (.int .i64 0)).ownsRow wa.heap.size TMb 4 (.slice (some ⟨g, 0, none⟩) n cap) n (recL (gz (j + 1) G)) by
              have := (hO.out.stored (j * 4 + 3) (.int .i64 0)).1
              rw [recL_set (id, r) _ _ (gz_get HQ.out), gz_step HQ.out] at this
              exact this)
            have M5 := Lib.hid ((Mod.refl (· = g) wr).setCell (p := ⟨g, j * 4 + 3, none⟩) (.inl rfl) (.int .i64 0))
            have HM5 := Lib.hid (HM.out.new M5.out (by intro i hi; have := HN4.out; omega))
            have VA5 := Lib.hid (hU.out.1.mod M5.out (by have := HN4.out; omega) (by have := HN4.out; omega))
            have VB5 := Lib.hid (hU.out.2.1.mod M5.out (by have := HN4.out; omega) (by have := HN4.out; omega))
            clear M5 c3 f3
            generalize wr.setCell ⟨g, j * 4 + 3, none⟩ (.int .i64 0) = w5 at *
            have hz : (gz (j + 1) G)[j]? = some (id, ⟨r.s, r.u, 0⟩) := by
              rw [← gz_step HQ.out, List.getElem?_set, if_pos rfl, if_pos (by rw [gz_len]; have := HGN.out; omega)]; rfl
            have d0 : w5.cell? ⟨g, j * 4, none⟩ = some (.int .i64 id) := by
              rw [O5.out.cellAt (j * 4) (by omega)]; exact recL_get _ j 0 id ⟨r.s, r.u, 0⟩ hz (by decide)
            have d1 : w5.cell? ⟨g, j * 4 + 1, none⟩ = some (.int .i64 r.s) := by
              rw [O5.out.cellAt (j * 4 + 1) (by omega), recL_get _ j 1 id ⟨r.s, r.u, 0⟩ hz (by decide)]; rfl
            have d2 : w5.cell? ⟨g, j * 4 + 2, none⟩ = some (.int .i64 r.u) := by
              rw [O5.out.cellAt (j * 4 + 2) (by omega), recL_get _ j 2 id ⟨r.s, r.u, 0⟩ hz (by decide)]; rfl
            have d3 : w5.cell? ⟨g, j * 4 + 3, none⟩ = some (.int .i64 0) := by
              rw [O5.out.cellAt (j * 4 + 3) (by omega), recL_get _ j 3 id ⟨r.s, r.u, 0⟩ hz (by decide)]; rfl
            have HB := Lib.hid (memHear (zb (id, r)) 2 bb Mb Sb 64 kb w5 VB5.out hU.out.2.2.1 (by decide))
            unfold rcv zb at HB
            dsimp only at HB
            have HH := Lib.hid (show HeardB ((G.take (j + 1)).map zb) (hearK Sb 64 kb (zb (id, r)) 2) by
              have h1 := hU.out.2.2.2.2.step hU.out.2.2.2.1 (by rw [List.length_map, List.length_take]; omega) (zb (id, r))
              rw [show (G.take (j + 1)).map zb = (G.take j).map zb ++ [zb (id, r)] by rw [List.take_add_one, HQ.out, List.map_append]; rfl]
              exact h1)
            clear hz
            go_wp2_with fail
            refine HB.out.mono ?_; rintro e w6 ⟨rfl, v6, m6⟩
            have VB6 := Lib.hid v6
            have VA6 := Lib.hid (VA5.out.mod m6 (by have := HN.out; omega) (by have := HN.out; omega))
            have O6 := Lib.hid (owns_modG O5.out m6 (fun i hi => by have := HBA.out; omega))
            have HM6 := Lib.hid (HM5.out.new m6 (by intro i hi; have := HN.out; omega))
            clear v6 m6 d0 d1 d2 d3
            go_wp2_with fail
            exact ⟨⟨j + 1, hearSelf Sb (zb (id, r)) 2, hearK Sb 64 kb (zb (id, r)) 2, by go_num, by omega, O6.out, ⟨VA6.out, VB6.out, hU.out.2.2.1.hearK _ _ _, by rw [hearSelf_id]; exact hU.out.2.2.2.1, HH.out⟩, HM6.out⟩, by simp [intOf]; omega⟩
          · have hjn : j = n := by omega
            have HH := Lib.hid (show HeardB (G.map zb) kb by have := hU.out.2.2.2.2; rwa [hjn, HGN.out, List.take_length] at this)
            have HM := Lib.hid hm
            have VB := Lib.hid hU.out.2.1
            have HAL := Lib.hid (memAll ba Ma Sa 64 ka wr hU.out.1 (by omega) hV.out.2.2.1.i64)
            clear hm hO hjn
            obtain ⟨wb, hwb⟩ : ∃ wb, wb = wr := ⟨_, rfl⟩
            rw [← hwb] at HAL HM VB ⊢
            clear hwb hU
            go_wp2_with fail
            refine HAL.out.mono ?_; rintro e w6 ⟨⟨v6, rfl, o6⟩, m6⟩
            obtain ⟨a6, cap6, rfl, _, he6, _⟩ := o6.els
            have HE := Lib.hid he6
            have VB6 := Lib.hid (VB.out.new m6)
            have HM6 := Lib.hid (HM.out.trans m6)
            clear o6 m6 he6 HM VB
            go_wp2_with fail
            go_loopw [14] (fun v wx => ∃ (i : Nat), v = .int .i64 i ∧ i ≤ ka.length ∧ Hid (Mod (fun _ => False) w6 wx)) (fun v _ => ka.length - (intOf v).toNat)
            case atStart => exact ⟨0, rfl, Nat.zero_le _, Mod.refl _ _⟩
            case round =>
              obtain ⟨i, rfl, hi, hm2⟩ := hrel
              have VB7 := Lib.hid (VB6.out.new hm2.out)
              have HM7 := Lib.hid (HM6.out.trans hm2.out)
              by_cases hlt3 : (i : Int) < ka.length
              · obtain ⟨⟨id, rr⟩, hq⟩ : ∃ q, ka[i]? = some q := ⟨_, List.getElem?_eq_getElem (by omega)⟩
                obtain ⟨X, rfl, c0, c1, c2, c3⟩ := recEl (HE.out.new hm2.out) (Nat.le_refl _) hq
                have hmem := List.mem_of_getElem? hq
                have hea := hV.out.2.2.1.each _ hmem
                dsimp only at hea
                have HKI := Lib.hid (i64_of (k := id) (by omega) (by omega))
                have HO := Lib.hid (memOf id bb Mb Sb 64 kb wr HKI.out VB7.out)
                have HNW := Lib.hid (fun (e1 : id ≠ 65536) (e2 : rr.u ≠ 3) => HH.out.hi (zb (id, rr)) (List.mem_map.2 ⟨_, HGS.out _ hmem, rfl⟩) (by unfold WordOk zb; simp only; omega) e1 e2)
                obtain ⟨o, ho⟩ : ∃ o, o = (lkL kb id).isSome := ⟨_, rfl⟩
                obtain ⟨r, hr⟩ : ∃ r, r = rd kb id := ⟨_, rfl⟩
                obtain ⟨ri, hri⟩ : ∃ r, r = idf kb id := ⟨_, rfl⟩
                rw [← ho, ← hr, ← hri] at HO
                have HOO := Lib.hid ho
                have HRR := Lib.hid hr
                have hil : i < ka.length := by omega
                clear hq hmem hea ho hr hri
                go_wp2_with fail
                refine HO.out.mono ?_; rintro e w7 ⟨rfl, m7⟩
                have ma := (m7.alloc (.cells #[.int .i64 ri, .int .i64 r.s, .int .i64 r.u, .int .i64 r.b] TMb))
                have XA := Lib.hid (Blk.new w7 #[.int .i64 ri, .int .i64 r.s, .int .i64 r.u, .int .i64 r.b] TMb)
                have MA8 := Lib.hid (hm2.out.trans ma)
                have d0 := ma.cell c0 (fun h => h); have d1 := ma.cell c1 (fun h => h); have d2 := ma.cell c2 (fun h => h); have d3 := ma.cell c3 (fun h => h)
                clear m7 ma c0 c1 c2 c3
                by_cases g1 : id = 65536
                · have g1' : (id == 65536) = true := by simpa using g1
                  clear g1
                  go_wp2_with fail
                  exact ⟨⟨i + 1, by go_num, by omega, MA8⟩, by simp [intOf]; omega⟩
                · have g1' : (id == 65536) = false := by simpa using g1
                  by_cases g2 : rr.u = 3
                  · have g2' : (rr.u == 3) = true := by simpa using g2
                    clear g1 g2
                    go_wp2_with fail
                    exact ⟨⟨i + 1, by go_num, by omega, MA8⟩, by simp [intOf]; omega⟩
                  · have g2' : (rr.u == 3) = false := by simpa using g2
                    obtain ⟨r', hr', hn⟩ := HNW.out g1 g2
                    have hr2' : lkL kb id = some r' := hr'
                    have ho : o = true := by rw [HOO.out, hr2']; rfl
                    have hr2 : r = r' := by rw [HRR.out]; unfold rd; rw [hr2']; rfl
                    subst ho
                    subst hr2
                    have hnn : decide (newP rr r) = false := decide_eq_false (show ¬ newP rr r from hn)
                    have HW := Lib.hid (fun n => refNewer (id, rr) (ri, r) ((w7.alloc (.cells #[.int .i64 ri, .int .i64 r.s, .int .i64 r.u, .int .i64 r.b] TMb)).drewN n))
                    unfold rcv at HW
                    dsimp only at HW
                    rw [hnn] at HW
                    clear hr' hr2' hn hnn g1 g2
                    go_upto_region 22 with fail
                    generalize w7.alloc (.cells #[.int .i64 ri, .int .i64 r.s, .int .i64 r.u, .int .i64 r.b] TMb) = w8 at *
                    obtain ⟨B7, hB7⟩ : ∃ B, B = w7.heap.size := ⟨_, rfl⟩
                    rw [← hB7] at XA ⊢
                    clear hB7
                    have y0 := XA.out.cell 0; have y1 := XA.out.cell 1; have y2 := XA.out.cell 2; have y3 := XA.out.cell 3
                    refine wp_region2 [] [] (by kernel_rfl) (by kernel_rfl) ?_
                    repeat (first | (refine reg_anyT (by rfl) (fun K hK => ?_); go_simp; refine hK _ _ ?_; clear hK K) | (refine reg_read (by rfl) (fun K hK => ?_); go_simp; refine hK _ _ ?_; clear hK K))
                    refine reg_eff (by rfl) (fun rn K hK => ?_); go_simp
                    refine (HW.out _).mono ?_; rintro e w' ⟨rfl, m9⟩
                    refine hK _ _ ?_; clear hK K
                    repeat (first | (refine reg_anyT (by rfl) (fun K hK => ?_); go_simp; refine hK _ _ ?_; clear hK K) | (refine reg_read (by rfl) (fun K hK => ?_); go_simp; refine hK _ _ ?_; clear hK K))
                    refine reg_nil (fun nd => ?_)
                    have MA9 := Lib.hid (MA8.out.trans (m9.undrew.drewN nd))
                    clear m9 y0 y1 y2 y3 d0 d1 d2 d3
                    go_wp2_with fail
                    exact ⟨⟨i + 1, by go_num, by omega, MA9⟩, by simp [intOf]; omega⟩
              · have HI := Lib.hid (i64_of (k := 65535) (by decide) (by decide))
                have HO := Lib.hid (memOf 65535 bb Mb Sb 64 kb wr HI.out VB7.out)
                have hsr := hV.out.2.2.2.2.1
                unfold SelfOk at hsr
                have hid := hV.out.2.2.2.1
                obtain ⟨r', hr', _⟩ := HH.out.hi (zb Sa) (List.mem_map.2 ⟨_, HGE.out, rfl⟩) (by unfold WordOk zb; simp only; omega) (by unfold zb; simp only; omega) (by unfold zb; simp only; omega)
                have hr2 : lkL kb 65535 = some r' := by rw [← hid]; exact hr'
                rw [show (lkL kb 65535).isSome = true by rw [hr2]; rfl] at HO
                clear hr' hr2 hsr hid
                go_wp2_with fail
                refine HO.out.mono ?_; rintro e w7 ⟨rfl, m7⟩
                have M8 := Lib.hid ((HM7.out.trans m7).alloc (.cells #[.int .i64 (idf kb 65535), .int .i64 (rd kb 65535).s, .int .i64 (rd kb 65535).u, .int .i64 (rd kb 65535).b] TMb))
                clear m7
                go_wp2_with fail
                go_ret
                exact ⟨rfl, M8.out⟩
end Go.Proofs.Ytagiodagbfahpaa
