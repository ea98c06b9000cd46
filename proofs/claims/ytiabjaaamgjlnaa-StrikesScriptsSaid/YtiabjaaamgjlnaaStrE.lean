/- Package strikes: Expire; no condition. -/
import Derived.Test.YtiabjaaamgjlnaaStrK
import Derived.Test.YtiabjaaamgjlnaaRegO
import Derived.Test.YtiabjaaamgjlnaaLeft
namespace Go.Proofs.Ytiabjaaamgjlnaa
open Go Go.RowKit

theorem infoInt : (Try.prog.info? 3).map (fun i => (i.zero, i.size, i.bytes)) = some (some (.int .i64 0), 1, 8) := by kernel_rfl
theorem BK.new {w w' : World} {b M : Nat} {lim ban most : Int} {ks : List (Int × Rc)} (h : BK w b M lim ban most ks) (hm : Mod (fun _ => False) w w') : BK w' b M lim ban most ks := h.mod hm (fun h => h) (fun h => h)
theorem BK.lt {w : World} {b M : Nat} {lim ban most : Int} {ks : List (Int × Rc)} (h : BK w b M lim ban most ks) : b < w.heap.size ∧ M < w.heap.size := ⟨h.head.lt, h.map.lt⟩
theorem rising_mp {ks : List (Int × Rc)} : Rising (mp ks) ↔ Rising ks := by
  unfold Rising mp
  rw [List.pairwise_map]
theorem intL_append (a b : List Int) : intL (a ++ b) = intL a ++ intL b := List.map_append
/-- Is a ban over? -/
def isOver (now : Int) (q : Int × Rc) : Bool := decide (0 < q.2.u) && decide (q.2.u ≤ now)

set_option maxRecDepth 100000 in
set_option maxHeartbeats 400000 in
theorem strExpireBad (now : Int) (b : Nat) (w : World) (h : ¬ (0 ≤ now ∧ now ≤ 1099511627776)) :
    Calls Try.prog 15 #[.pointer (some ⟨b, 0, none⟩), .int .i64 now] w fun e w' => e = .returned (.tuple #[.slice none 0 0, .int .i64 1]) ∧ w = w' := by
  have e1 : (decide (0 ≤ now) && decide (now ≤ 1099511627776)) = false := by
    rw [Bool.and_eq_false_iff, decide_eq_false_iff_not, decide_eq_false_iff_not]; omega
  clear h
  go_enter Try.func15, Try.ntmps15
  go_wp2_with fail
  refine (strWithin _ _ _ _).mono ?_; rw [e1]; rintro e w' ⟨rfl, rfl⟩
  go_wp2_with fail
  go_ret2
  exact ⟨rfl, rfl⟩

set_option maxRecDepth 100000 in
set_option maxHeartbeats 2000000 in
theorem strExpire (now : Int) (b M : Nat) (lim ban most : Int) (ks : List (Int × Rc)) (w : World) (h : BK w b M lim ban most ks) (hlen : ks.length ≤ 1000) (hI : ∀ q ∈ ks, I64 q.1) (hn : 0 ≤ now ∧ now ≤ 1099511627776) :
    Calls Try.prog 15 #[.pointer (some ⟨b, 0, none⟩), .int .i64 now] w fun e w' => (∃ v, e = .returned (.tuple #[v, .int .i64 0]) ∧ w'.ownsRow w.heap.size 3 1 v (keysL (ks.filter (isOver now))).length (intL (keysL (ks.filter (isOver now))))) ∧ BK w' b M lim ban most (ks.filter fun q => !isOver now q) ∧ Mod (· = M) w w' := by
  have e1 : (decide (0 ≤ now) && decide (now ≤ 1099511627776)) = true := by simp [hn.1, hn.2]
  obtain ⟨φ, hφ⟩ : ∃ φ : Int × Rc → Bool, φ = isOver now := ⟨_, rfl⟩
  have HPHI := Lib.hid hφ
  have HK := Lib.hid (strKnown b M lim ban most ks w h hlen)
  have H := Lib.hid h
  have HRI := Lib.hid (rising_mp.1 h.map.rising)
  have HI := Lib.hid hI
  rw [← hφ]
  clear h hI hφ hn
  go_enter Try.func15, Try.ntmps15
  go_wp2_with fail
  refine (strWithin _ _ _ _).mono ?_; rw [e1]; rintro e w' ⟨rfl, rfl⟩
  go_wp2_with fail
  refine HK.out.mono ?_; rintro e w2 ⟨v, rfl, o, m⟩
  have M2 := Lib.hid m
  obtain ⟨ol, o2⟩ := o
  rw [keys_len] at o2
  rcases o2 with ⟨rfl, hn⟩ | ⟨g, cap, cur, rfl, hg, hh, hcap, _, _, htk⟩
  · have hks : ks = [] := by simpa using hn
    subst hks
    clear ol hn m
    go_wp2_with fail
    go_loopw [6, 16] (fun v i wr => v = .slice none 0 0 ∧ i = .int .i64 0 ∧ wr = w2) (fun _ _ _ => 0)
    case atStart => exact ⟨rfl, rfl, rfl⟩
    case round =>
      obtain ⟨rfl, rfl, rfl⟩ := hrel
      go_wp2_with fail
      go_ret2
      exact ⟨⟨_, rfl, World.ownsRow_nil _ _ _ _⟩, H.out.new M2.out, M2.out.mono (fun _ _ h => h.elim)⟩
  · have hc : ∀ (k : Nat) (q : Int × Rc), ks[k]? = some q → w2.cell? ⟨g, k, none⟩ = some (.int .i64 q.1) := by
      intro k q hk
      have hlt : k < ks.length := (List.getElem?_eq_some_iff.1 hk).1
      have h1 := (show Blk w2 g cur _ from hh).cell k
      rw [h1, ← Array.getElem?_toList]
      have h2 := congrArg (fun l => l[k]?) htk
      simp only [List.getElem?_take] at h2
      rw [if_pos (by omega)] at h2
      rw [h2]
      simp [keysL, hk]
    have HC := Lib.hid hc
    have hgM : ¬ g = M := by have := H.out.lt; omega
    have hbd : ks.length ≤ cap := hcap
    have hw2 : b < w2.heap.size ∧ M < w2.heap.size := by have := H.out.lt; have := M2.out.size; omega
    clear ol hh hcap htk m hc hg
    go_wp2_with fail
    go_loopw [6, 16] (fun v i wr => ∃ k : Nat, i = .int .i64 k ∧ k ≤ ks.length ∧ Hid (wr.ownsRow w2.heap.size 3 1 v (keysL ((ks.take k).filter φ)).length (intL (keysL ((ks.take k).filter φ)))) ∧ Hid (BK wr b M lim ban most (leftG φ (ks.take k) ks)) ∧ Mod (· = M) w2 wr) (fun _ i _ => ks.length - (intOf i).toNat)
    case atStart => exact ⟨0, rfl, Nat.zero_le _, World.ownsRow_nil _ _ _ _, H.out.new M2.out, Mod.refl _ _⟩
    case round =>
      obtain ⟨k, rfl, hk, hown, hT, hm⟩ := hrel
      by_cases hlt : (k : Int) < ks.length
      · obtain ⟨⟨x, r⟩, hkr⟩ : ∃ q, ks[k]? = some q := ⟨_, List.getElem?_eq_getElem (by omega)⟩
        have hmem : (x, r) ∈ ks := List.mem_of_getElem? hkr
        have ck := hm.cell (HC.out k _ hkr) (by exact hgM)
        have hlk := leftG_look φ HRI.out hkr
        have HL := Lib.hid (leftG_add φ (ks.take k) ks (x, r))
        have HFT := Lib.hid (filterG_take φ ks k (x, r) hkr)
        have HTK := Lib.hid (show ks.take (k + 1) = ks.take k ++ [(x, r)] by rw [List.take_add_one, hkr]; rfl)
        have hphi : φ (x, r) = (decide (0 < r.u) && decide (r.u ≤ now)) := by rw [HPHI.out]; rfl
        have hl : (Instr.lookup 52 (.map (some M)) (.int .i64 x) false).run Try.prog wr = .ok (.agg #[.int .i64 x, .int .i64 r.s, .int .i64 r.u, .int .i64 r.b]) wr := by
          have := hT.out.map.look Try.underlying3 Try.underlying52 (zeroKnown _) (HI.out _ hmem)
          rw [lk_mp, hlk] at this
          exact this
        have c3 : wr.cell? ⟨b, 3, none⟩ = some (.map (some M)) := hT.out.head.cell 3
        have hwl := hT.out.lt
        have HXI := Lib.hid (HI.out _ hmem)
        have ma := (Mod.refl (fun _ => False) wr).alloc (.cells #[.int .i64 x, .int .i64 r.s, .int .i64 r.u, .int .i64 r.b] 56)
        have TA := Lib.hid (hT.out.new ma)
        have OA := Lib.hid (hown.out.alloc (.cells #[.int .i64 x, .int .i64 r.s, .int .i64 r.u, .int .i64 r.b] 56))
        have XA := Lib.hid (Blk.new wr #[.int .i64 x, .int .i64 r.s, .int .i64 r.u, .int .i64 r.b] 56)
        have MA := Lib.hid (hm.trans (ma.mono (fun _ _ h => h.elim)))
        have hfl : (keysL ((ks.take k).filter φ)).length ≤ 1000 := by
          rw [keys_len]
          have := List.length_filter_le φ (ks.take k)
          have h2 : (ks.take k).length ≤ k := List.length_take_le _ _
          omega
        clear hmem hkr hlk hm ma hown hT
        by_cases hu : 0 < r.u ∧ r.u ≤ now
        · have hu1 := hu.1
          have hu2 := hu.2
          have FT : Hid (φ (x, r) = true) := by show _ = _; rw [hphi]; simp [hu1, hu2]
          obtain ⟨w4, hrun, him, hm4, hz4⟩ := TA.out.map.del Try.underlying3 Try.underlying52 0 HXI.out
          rw [del_mp] at him
          have T4 := Lib.hid (show BK w4 b M lim ban most (delL (leftG φ (ks.take k) ks) x) from ⟨TA.out.head.mod hm4 (fun e => TA.out.ne e.symm), him, TA.out.ne⟩)
          have O4 := Lib.hid (owns_modG OA.out hm4 (fun i hi e => by omega))
          have M4 := Lib.hid (MA.out.trans hm4)
          have cA3 : (wr.alloc (.cells #[.int .i64 x, .int .i64 r.s, .int .i64 r.u, .int .i64 r.b] 56)).cell? ⟨b, 3, none⟩ = some (.map (some M)) := TA.out.head.cell 3
          clear hphi hu him hm4 hz4
          go_wp2_with (at_builtin; refine app1 (base := w2.heap.size) rfl (.tmp 40) (.tmp 42) 34 3 1 rfl Try.underlying34 infoInt rfl (by decide) _ _ _ _ 1 [.int .i64 x] (by have := M4.out.size; simp; omega) (O4.out.alloc _) rfl rfl (sl_new w4 #[.int .i64 x] 3) (by simp [Value.oneCell']) (by decide) (by omega) ?_; intro v' w' g1 g2 g3
                       have G1 := Lib.hid g1
                       have G2 := Lib.hid (((Mod.refl _ w4).alloc (.cells #[.int .i64 x] 3)).trans g2)
                       have hog := own_ge O4.out
                       clear g1 g2 g3)
          go_wp2_with fail
          refine ⟨⟨k + 1, by go_num, by omega, ?_, ?_, ?_⟩, by simp [intOf]; omega⟩
          · show World.ownsRow _ _ _ _ _ _ _
            rw [HFT.out, FT.out, if_pos rfl, keys_append, intL_append, List.length_append]
            exact G1.out
          · show BK _ _ _ _ _ _ _
            rw [HTK.out, HL.out, FT.out, if_pos rfl]
            exact T4.out.mod G2.out (fun h => by have := hog _ h; omega) (fun h => by have := hog _ h; omega)
          · exact M4.out.also G2.out (fun i h => .inr (hog i h))
        · have FT : Hid (φ (x, r) = false) := by
            show _ = _
            rw [hphi, Bool.and_eq_false_iff, decide_eq_false_iff_not, decide_eq_false_iff_not]; omega
          have hk1 : ks.length - (k + 1) < ks.length - k := by omega
          have HU := Lib.hid hu
          clear hphi hu
          go_wp2_with fail
          all_goals first
            | (exfalso; apply HU.out; constructor <;> omega)
            | (refine ⟨⟨k + 1, by go_num, by omega, ?_, ?_, MA.out⟩, by simp [intOf]; omega⟩
               · show World.ownsRow _ _ _ _ _ _ _
                 rw [HFT.out, FT.out]
                 simpa using OA.out
               · show BK _ _ _ _ _ _ _
                 rw [HTK.out, HL.out, FT.out]
                 exact TA.out)
      · have hkn : k = ks.length := by omega
        have hO := hown.out
        rw [hkn, List.take_length] at hO
        have hT2 := hT.out
        rw [hkn, List.take_length, leftG_all φ ks HRI.out] at hT2
        have HO := Lib.hid hO
        have HT := Lib.hid hT2
        have HM := Lib.hid hm
        clear hkn hm hown hO hT hT2
        go_wp2_with fail
        go_ret2
        exact ⟨⟨_, rfl, HO.out.mono M2.out.size⟩, HT.out, (M2.out.mono (fun _ _ h => h.elim)).trans HM.out⟩
end Go.Proofs.Ytiabjaaamgjlnaa
