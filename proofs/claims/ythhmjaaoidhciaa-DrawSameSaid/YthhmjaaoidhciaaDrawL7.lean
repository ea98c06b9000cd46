/- The walk of the statement DrawSame: the call returns true and turns nothing that was there; no condition. -/
import Derived.Test.YthhmjaaoidhciaaDrawL
import Derived.Test.YthhmjaaoidhciaaShufS
import Derived.Test.YthhmjaaoidhciaaMapL
namespace Go.Proofs.Ythhmjaaoidhciaa
open Go Go.RowKit

theorem zeroInt (w : World) : (zeroValue 3).run Try.prog w = .ok (.int .i64 0) w := by kernel_rfl
/-- What a map of numbers holds at x. -/
def at0 (m : List (Int × Value)) (x : Int) : Value := (lkL m x).getD (.int .i64 0)
theorem at0_put (m : List (Int × Value)) (k c x : Int) : at0 (putL m k (.int .i64 c)) x = if x = k then .int .i64 c else at0 m x := by
  unfold at0
  rw [lk_put]
  split <;> rfl
theorem length_del_le {α : Type} (l : List (Int × α)) (k : Int) : (delL l k).length ≤ l.length := List.length_filter_le _ _
theorem length_put_le {α : Type} (l : List (Int × α)) (k : Int) (v : α) : (putL l k v).length ≤ l.length + 1 := by
  unfold putL
  rw [length_insS]
  have := length_del_le l k
  omega
theorem count_take_succ (l : List Int) (k : Nat) (hk : k < l.length) (x : Int) : ((l.take (k + 1)).count x : Int) = if x = l.getD k 0 then ((l.take k).count x : Int) + 1 else (l.take k).count x := by
  rw [List.take_succ_eq_append_getElem hk, List.count_append, List.getD_eq_getElem?_getD, List.getElem?_eq_getElem hk, Option.getD_some]
  by_cases h : x = l[k]
  · subst h; simp
  · rw [if_neg h]; simp [Ne.symm h]
theorem count_take_le (l : List Int) (k : Nat) (x : Int) : (l.take k).count x ≤ k := by
  have := List.count_le_length (a := x) (l := l.take k)
  simp at this
  omega

/-- A slice's cell. -/
theorem Sl.at {w : World} {v : Value} {n : Nat} {xs : List Int} (h : Sl w v 1 n (ints xs)) (k : Nat) (hk : k < n) : ∃ x c, v = .slice (some x) n c ∧ w.cell? (x.add k) = some (.int .i64 (xs.getD k 0)) := by
  rcases h with ⟨_, h2, _⟩ | ⟨x, c, rfl, h2, h3⟩
  · omega
  · have hl : xs.length = n := by simpa using h2
    exact ⟨x, c, rfl, h3 k _ (by rw [List.getElem?_map, List.getElem?_eq_getElem (by omega), List.getD_eq_getElem?_getD, List.getElem?_eq_getElem (by omega)]; rfl)⟩
theorem Sl.form {w : World} {v : Value} {size n : Nat} {xs : List Value} (h : Sl w v size n xs) : ∃ a c, v = .slice a n c := by
  rcases h with ⟨h1, h2, _⟩ | ⟨x, c, h1, _⟩
  · exact ⟨none, 0, by rw [h2]; exact h1⟩
  · exact ⟨_, _, h1⟩
theorem getD_wf {xs : List Int} (h : ∀ n ∈ xs, I64 n) (k : Nat) : I64 (xs.getD k 0) := by
  rw [List.getD_eq_getElem?_getD]
  cases hk : xs[k]? with
  | none => show (Lit.int .i64 0).wf = true; decide
  | some z => exact h z (List.mem_of_getElem? hk)

set_option maxHeartbeats 4000000 in
set_option maxRecDepth 100000 in
theorem drawSame_walk (a0 : Int) (a1 : Option Addr) (len1 cap1 : Nat) (z1 : List Int) (w : World) (_ : (Lit.int .u64 a0).wf = true) (h1 : IsRow .i64 w a1 len1 cap1 z1) :
    Calls Try.prog 7 #[.int .u64 a0, .slice a1 len1 cap1] w fun e w' => e = .returned (.bool true) ∧ Below w.heap.size w w' := by
  have hs := h1.sl
  have hwf : ∀ n ∈ z1.take len1, I64 n := by
    rcases h1 with ⟨_, _, _, rfl⟩ | ⟨_, _, _, _, _, _, h⟩
    · simp
    · exact fun n hn => h n (List.mem_of_mem_take hn)
  clear h1
  generalize z1.take len1 = xs at hs hwf
  have hl : xs.length = len1 := by have := hs.len; simpa using this
  by_cases h500 : 500 < len1
  · have h5 : (500 : Int) < len1 := by omega
    clear hs hl hwf
    go_enter Try.func7, Try.ntmps7
    go_wp2_with fail
    refine (awake10 _).mono ?_; rintro e w1 ⟨rfl, hb1⟩
    go_wp2_with fail
    refine (drawNew _ _).mono ?_; rintro e w' ⟨rfl, rfl⟩
    go_wp2_with fail
    go_ret
    exact ⟨rfl, hb1.alloc hb1.size _⟩
  · have h5 : (len1 : Int) ≤ 500 := by omega
    have HL := Lib.hid hl
    have HS := Lib.hid hs
    have HW := Lib.hid hwf
    obtain ⟨i0, hi, hz0, hz1, hz2⟩ := info_parts infoInt
    clear hs hl hwf
    go_enter Try.func7, Try.ntmps7
    go_wp2_with fail
    refine (awake10 _).mono ?_; rintro e w1 ⟨rfl, hb1⟩
    have hs1 := hb1.size
    go_wp2_with fail
    refine (drawNew _ _).mono ?_; rintro e w2 ⟨rfl, hw2⟩
    obtain ⟨B, hB⟩ : ∃ B, B = w1.heap.size := ⟨_, rfl⟩
    rw [← hB]
    have hb2 : Below w.heap.size w w2 := by subst hw2; exact hb1.alloc hs1 _
    have c2 : w2.cell? ⟨B, 0, none⟩ = some (.int .u64 a0) := by subst hw2; subst hB; go_simp
    have f2 : w2.frozen? ⟨B, 0, none⟩ = false := by subst hw2; subst hB; go_simp
    have hz : B + 1 = w2.heap.size := by subst hw2; simp [hB]
    rw [← hB] at hs1
    clear hw2 hB hb1
    have s2 := Lib.hid (HS.out.below hb2 (Nat.le_refl _))
    have hmm := @run_makeMap Try.prog
    go_wp2_with (at_builtin; refine wpList_append_sl rfl (.tmp 32) (.tmp 33) 36 rfl w2.heap.size 3 i0 (.int .i64 0) 1 8 Try.underlying36 hi hz0 hz1 hz2 rfl (by decide) _ _ _ rfl (World.ownsRow_made w2 #[] 0 (Nat.le_refl _) (Nat.zero_le _) rfl) (.slice a1 len1 cap1) len1 (ints xs) rfl ?q1 (ints_oneCell' _) ?q2 (by decide) ?q3 ?_)
    case q1 => exact s2.out.alloc _
    case q2 => omega
    case q3 => simp
    intro v3 w3 ho3 hgrow
    have hm3 : Mod (fun _ => False) w2 w3 := ((Mod.refl _ w2).alloc _).grown hgrow (by intro k hk; simp [Value.ownBlock] at hk; omega)
    have hb3 := below_mod hb2 (by omega) hm3 (by simp)
    have c3 := hm3.cell c2 (by simp)
    have f3 : w3.frozen? ⟨B, 0, none⟩ = false := (hm3.frozen (p := ⟨B, 0, none⟩) (by show B < _; omega) (by simp)).trans f2
    have hz3 := hm3.size
    have q3 := ho3.blk
    have s3 := ho3.sl
    clear hgrow hm3 ho3 c2 f2 s2 hb2 hi hz0 hz1 hz2
    go_wp2_with fail
    have im4 := IMap.made Try.prog 3 w3
    have s4 : Sl (w3.alloc (.map #[] 0)) (.slice a1 len1 cap1) 1 xs.length (ints xs) := by rw [HL.out]; exact (HS.out.below hb3 (Nat.le_refl _)).alloc _
    refine (drawShuffle _ xs a0 B _ s4 (by rw [HL.out]; omega) (by rw [World.cell?_alloc_lt _ _ _ (by show B < _; omega)]; exact c3) (by rw [World.frozen?_alloc_old _ _ _ (by show B ≠ _; omega)]; exact f3)).mono ?_; rintro e w5 ⟨v5, rfl, ho5, _, _, hm5⟩
    obtain ⟨M, hM⟩ : ∃ M, M = w3.heap.size := ⟨_, rfl⟩
    rw [← hM] at im4 ⊢
    have im5 : IMap Try.prog 3 w5 M [] := im4.mod hm5 (by omega)
    have hz5 : M + 1 ≤ w5.heap.size := by have := hm5.size; simp at this; omega
    have hb5 : Below w.heap.size w w5 := below_mod (hb3.alloc (by omega) _) (by simp; omega) hm5 (by intro k hk; omega)
    have q5 : ∀ x m c, v5 = .slice (some x) m c → M + 1 ≤ x.block := by
      intro x m c hv
      have := (ho5.blk x m c hv).1
      simp at this
      omega
    have s5 := ho5.sl
    have s3' : Sl w5 v3 1 len1 (ints xs) := (s3.alloc (.map #[] 0)).mod hm5 (by intro x m c hv; have := (q3 x m c hv).1; omega)
    rw [HL.out] at s5
    have r3 : ∀ x m c, v3 = .slice (some x) m c → x.block ≠ M := by intro x m c hv; have := (q3 x m c hv).2; omega
    have hwM : w.heap.size ≤ M := by omega
    clear s3 im4 s4 ho5 hm5 hb3 c3 f3 hz3 q3 hM hmm
    obtain ⟨a5, cp5, rfl⟩ := s5.form
    obtain ⟨a3, cp3, rfl⟩ := s3'.form
    have S3 := Lib.hid s3'
    have S5 := Lib.hid s5
    have R3 := Lib.hid r3
    have Q5 := Lib.hid q5
    clear s3' s5 r3 q5
    go_wp2_with fail
    go_loopw [10] (fun i wr => ∃ (k : Nat) (m : List (Int × Value)), i = .int .i64 k ∧ k ≤ len1 ∧ IMap Try.prog 3 wr M m ∧ m.length ≤ k ∧ Hid (∀ x, at0 m x = .int .i64 ((xs.take k).count x)) ∧ Mod (· = M) w5 wr) (fun i _ => len1 - (intOf i).toNat)
    case atStart => exact ⟨0, [], rfl, by omega, im5, Nat.le_refl _, fun x => rfl, Mod.refl _ _⟩
    case round =>
      obtain ⟨k, m, rfl, hk, im, hml, hcnt, hmr⟩ := hrel
      by_cases hlt : k < len1
      · obtain ⟨x, c', hv, hcell⟩ := HS.out.at k hlt
        simp only [Value.slice.injEq] at hv
        obtain ⟨rfl, _, _⟩ := hv
        have hcell' : wr.cell? (x.add k) = some (.int .i64 (xs.getD k 0)) := by
          have hb := below_mod hb5 (by omega) hmr (by intro j hj; omega)
          rw [hb.cell (World.block_lt_of_cell? w _ hcell)]; exact hcell
        have hzw : I64 (xs.getD k 0) := getD_wf HW.out k
        have hk1 : ∀ y, ((xs.take (k + 1)).count y : Int) = if y = xs.getD k 0 then ((xs.take k).count y : Int) + 1 else (xs.take k).count y := count_take_succ xs k (by rw [HL.out]; exact hlt)
        have K1 := Lib.hid hk1
        have hN := count_take_le xs k (xs.getD k 0)
        have hcz := hcnt.out (xs.getD k 0)
        generalize hzz : xs.getD k 0 = z at hcell' hzw K1 hN hcz
        generalize hNN : (xs.take k).count z = N at hN hcz
        have hlook := im.look Try.underlying3 Try.underlying37 (zeroInt wr) hzw
        rw [show (lkL m z).getD (.int .i64 0) = .int .i64 (N : Int) from hcz] at hlook
        obtain ⟨w6, hput, im6, hm6, _⟩ := im.put Try.underlying3 Try.underlying37 (by unfold maxLen; omega) hzw (.int .i64 ((N : Int) + 1))
        have hN2 : (N : Int) ≤ 500 := by omega
        have hlt' : (k : Int) < len1 := by omega
        have hcnt6 : Hid (∀ y, at0 (putL m z (.int .i64 ((N : Int) + 1))) y = .int .i64 ((xs.take (k + 1)).count y)) := by
          intro y
          rw [at0_put, K1.out y]
          by_cases hy : y = z
          · subst hy; rw [if_pos rfl, if_pos rfl, hNN]
          · rw [if_neg hy, if_neg hy]; exact hcnt.out y
        clear hk1 hzz hNN hcz hzw hcell
        go_wp2_with fail
        go_roundw
        case rel => exact ⟨k + 1, _, by go_num, by omega, im6, by have := length_put_le m z (Value.int .i64 ((N : Int) + 1)); omega, hcnt6, hmr.trans hm6⟩
        case measure => simp [intOf]; omega
      · have hkl : k = len1 := by omega
        subst hkl
        have hc0 : ∀ x, at0 m x = .int .i64 (xs.count x) := by
          intro x
          have h := hcnt.out x
          rw [List.take_of_length_le (by rw [HL.out]; exact Nat.le_refl _)] at h
          exact h
        have C0 := Lib.hid hc0
        have hys := shuffled_len a0 xs
        rw [HL.out] at hys
        have YL := Lib.hid hys
        have hcy : ∀ x, ((shuffled a0 xs).count x : Int) = xs.count x := fun x => by rw [count_shuffled]
        have CY := Lib.hid hcy
        clear hcnt hc0 hys hcy h500
        obtain ⟨ys, hys⟩ : ∃ ys, ys = shuffled a0 xs := ⟨_, rfl⟩
        rw [← hys] at S5 YL CY
        clear hys
        have S5r : Hid (Sl wr (.slice a5 k cp5) 1 k (ints ys)) := S5.out.mod hmr (by intro x m' c hv; have := Q5.out x m' c hv; omega)
        have S3r : Hid (Sl wr (.slice a3 k cp3) 1 k (ints xs)) := S3.out.mod hmr (by intro x m' c hv; exact R3.out x m' c hv)
        have hbr : Below w.heap.size w wr := below_mod hb5 (by omega) hmr (by intro j hj; omega)
        obtain ⟨wa, hwa⟩ : ∃ wa : World, wa = wr := ⟨_, rfl⟩
        rw [← hwa] at S5r S3r hbr im ⊢
        clear hmr hwa S5 S3 hb5 im5
        clear wr
        go_wp2_with fail
        go_loopw [11] (fun i w7 => ∃ (j : Nat) (m : List (Int × Value)), i = .int .i64 j ∧ j ≤ k ∧ IMap Try.prog 3 w7 M m ∧ m.length ≤ k + j ∧ Hid (∀ x, at0 m x = .int .i64 ((xs.count x : Int) - ((ys.take j).count x : Int))) ∧ Mod (· = M) wa w7) (fun i _ => k - (intOf i).toNat)
        case atStart => exact ⟨0, m, rfl, by omega, im, by omega, fun x => by rw [C0.out x]; simp, Mod.refl _ _⟩
        case round =>
          obtain ⟨j, m2, rfl, hj, im2, hml2, hcnt2, hmr2⟩ := hrel
          by_cases hlt2 : j < k
          · obtain ⟨x, c', hv, hcell⟩ := S5r.out.at j hlt2
            have hv' := hv
            simp only [Value.slice.injEq] at hv
            obtain ⟨rfl, _, _⟩ := hv
            have hxb := Q5.out x k cp5 rfl
            have hcell' : wr.cell? (x.add j) = some (.int .i64 (ys.getD j 0)) := hmr2.cell hcell (by rw [Addr.add_block]; omega)
            have hzw : I64 (ys.getD j 0) := by
              by_cases hmem : ys.getD j 0 ∈ xs
              · exact HW.out _ hmem
              · exfalso
                have hmy : ys.getD j 0 ∈ ys := by
                  have hjl : j < ys.length := by rw [YL.out]; exact hlt2
                  rw [List.getD_eq_getElem?_getD, List.getElem?_eq_getElem hjl]
                  exact List.getElem_mem hjl
                have h1 := List.count_pos_iff.2 hmy
                have h2 := List.count_eq_zero.2 hmem
                have h3 := CY.out (ys.getD j 0)
                omega
            have hk1 : ∀ y, ((ys.take (j + 1)).count y : Int) = if y = ys.getD j 0 then ((ys.take j).count y : Int) + 1 else (ys.take j).count y := count_take_succ ys j (by rw [YL.out]; exact hlt2)
            have K1 := Lib.hid hk1
            have hN := count_take_le ys j (ys.getD j 0)
            have hM := count_take_le xs xs.length (ys.getD j 0)
            rw [List.take_length, HL.out] at hM
            have hcz := hcnt2.out (ys.getD j 0)
            generalize hzz : ys.getD j 0 = z at hcell' hzw K1 hN hM hcz
            obtain ⟨N, hNN⟩ : ∃ N : Int, N = (xs.count z : Int) - ((ys.take j).count z : Int) := ⟨_, rfl⟩
            rw [← hNN] at hcz
            have hN1 : N ≤ 500 := by omega
            have hN2 : -500 ≤ N := by omega
            have hlook := im2.look Try.underlying3 Try.underlying37 (zeroInt wr) hzw
            rw [show (lkL m2 z).getD (.int .i64 0) = .int .i64 N from hcz] at hlook
            obtain ⟨w6, hput, im6, hm6, _⟩ := im2.put Try.underlying3 Try.underlying37 (by unfold maxLen; omega) hzw (.int .i64 (N - 1))
            have hlt' : (j : Int) < k := by omega
            have hcnt6 : Hid (∀ y, at0 (putL m2 z (.int .i64 (N - 1))) y = .int .i64 ((xs.count y : Int) - ((ys.take (j + 1)).count y : Int))) := by
              intro y
              rw [at0_put, K1.out y]
              by_cases hy : y = z
              · subst hy; rw [if_pos rfl, if_pos rfl, hNN]; congr 1; omega
              · rw [if_neg hy, if_neg hy]; exact hcnt2.out y
            clear hk1 hzz hNN hcz hzw hcell hN hM
            go_wp2_with fail
            go_roundw
            case rel => exact ⟨j + 1, _, by go_num, by omega, im6, by have := length_put_le m2 z (Value.int .i64 (N - 1)); omega, hcnt6, hmr2.trans hm6⟩
            case measure => simp [intOf]; omega
          · have hjk : j = k := by omega
            subst hjk
            have hc0 : Hid (∀ x, at0 m2 x = .int .i64 0) := by
              intro x
              have h := hcnt2.out x
              rw [List.take_of_length_le (by rw [YL.out]; exact Nat.le_refl _), CY.out x] at h
              rw [h]; congr 1; omega
            have hb7 : Below w.heap.size w wr := below_mod hbr hbr.size hmr2 (by intro j hj; omega)
            have S3e : Hid (Sl wr (.slice a3 j cp3) 1 j (ints xs)) := S3r.out.mod hmr2 (by intro x m' c hv; exact R3.out x m' c hv)
            obtain ⟨wo, hwo⟩ : ∃ wo : World, wo = wr := ⟨_, rfl⟩
            rw [← hwo] at hb7 S3e im2 ⊢
            clear hcnt2 CY C0 hmr2 hwo S3r S5r hbr im YL
            clear wr
            go_wp2_with fail
            go_loopw [12] (fun i w7 => ∃ (n : Nat), i = .int .i64 n ∧ n ≤ j ∧ w7 = wo) (fun i _ => j - (intOf i).toNat)
            case atStart => exact ⟨0, rfl, by omega, rfl⟩
            case round =>
              obtain ⟨n, rfl, hn, rfl⟩ := hrel
              by_cases hlt3 : n < j
              · obtain ⟨x, c', hv, hcell0⟩ := HS.out.at n hlt3
                simp only [Value.slice.injEq] at hv
                obtain ⟨rfl, _, _⟩ := hv
                have hcell : wr.cell? (x.add n) = some (.int .i64 (xs.getD n 0)) := by
                  rw [hb7.cell (World.block_lt_of_cell? w _ hcell0)]; exact hcell0
                have hzw := getD_wf HW.out n
                have hcz := hc0.out (xs.getD n 0)
                generalize hzz : xs.getD n 0 = z at hcell hzw hcz
                have hlook := im2.look Try.underlying3 Try.underlying37 (zeroInt wr) hzw
                rw [show (lkL m2 z).getD (.int .i64 0) = .int .i64 0 from hcz] at hlook
                have hlt' : (n : Int) < j := by omega
                clear hzz hcz hzw hcell0
                go_wp2_with fail
                go_roundw
                case rel => exact ⟨n + 1, by go_num, by omega, trivial⟩
                case measure => simp [intOf]; omega
              · have hnj : n = j := by omega
                subst hnj
                have hs9 : Sl wr (.slice a1 n cap1) 1 n (ints xs) := HS.out.below hb7 (Nat.le_refl _)
                have HS9 := Lib.hid hs9
                have hn5 : n ≤ 500 := by omega
                clear hs9
                go_wp2_with fail
                refine (same10 _ _ xs n _ HS9.out S3e.out (by omega)).mono ?_; rintro e w9 ⟨rfl, _, rfl⟩
                go_wp2_with fail
                go_ret
                exact ⟨by simp, below_drewN hb7 _⟩
end Go.Proofs.Ythhmjaaoidhciaa
