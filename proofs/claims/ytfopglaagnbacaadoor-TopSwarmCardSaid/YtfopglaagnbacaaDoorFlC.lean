/- Package flight: All. -/
import Derived.Test.YtfopglaagnbacaaDoorKeysL
import Derived.Test.YtfopglaagnbacaaDoorFlB
import Derived.Test.YtfopglaagnbacaaDoorApp3
namespace Go.Proofs.YtfopglaagnbacaaDoor.Fl
open Go Go.RowKit

def rqC (q : Int × Rq) : List Value := [.int .i64 q.2.p, .int .i64 q.1, .int .i64 q.2.t]
def rqL (ks : List (Int × Rq)) : List Value := ks.flatMap rqC
theorem rqL_take (ks : List (Int × Rq)) (k : Nat) (x : Int) (r : Rq) (h : ks[k]? = some (x, r)) : rqL (ks.take (k + 1)) = rqL (ks.take k) ++ [.int .i64 r.p, .int .i64 x, .int .i64 r.t] := by
  unfold rqL
  rw [List.take_add_one, h, List.flatMap_append]
  rfl
/-- What is handed back: a list of requests in new memory. -/
def RqsP (ks : List (Int × Rq)) (w : World) (e : Ending) (w' : World) : Prop := ∃ v, e = .returned v ∧ w'.ownsRow w.heap.size 45 3 v ks.length (rqL ks) ∧ Mod (fun _ => False) w w'
theorem infoRq : (Tryd.prog.info? 45).map (fun i => (i.zero, i.size, i.bytes)) = some (some rq0, 3, 24) := by kernel_rfl

set_option maxRecDepth 100000 in
set_option maxHeartbeats 1000000 in
theorem flAll (b M : Nat) (most each pat : Int) (ks : List (Int × Rq)) (w : World) (h : TB w b M most each pat ks) (hlen : ks.length ≤ 1000) (hI : ∀ q ∈ ks, I64 q.1) :
    Calls Tryd.prog 32 #[.pointer (some ⟨b, 0, none⟩)] w (RqsP ks w) := by
  have c3 : w.cell? ⟨b, 3, none⟩ = some (.map (some M)) := h.head.cell 3
  have hk := Tryd.maps_Keys_42 (some M) w
  have hs := Tryd.slices_Sorted_keys_42 M _ (toD (mpV rqv ks)) RV w h.map.owns (by rw [size_toD, len_mpV]; unfold maxLen; omega) (by rw [size_toD, len_mpV]; omega)
  have hr := h.map.rising
  have HK := Lib.hid hk
  have HS := Lib.hid hs
  have HR := Lib.hid hr
  have HT := Lib.hid h
  have HRI := Lib.hid h.rising
  have HI := Lib.hid hI
  clear h hk hs hr hI
  go_enter Tryd.func32, Tryd.ntmps32
  go_wp2_with fail
  refine HK.out.mono ?_; rintro e w1 ⟨rfl, rfl⟩
  go_wp2_with fail
  refine HS.out.mono ?_; rintro e w2 hq
  have hq2 := IntsP.of_sorted HR.out ((Mod.refl (fun _ => False) w).alloc _) hq
  obtain ⟨v, rfl, o, m⟩ := hq2
  rw [keys_mpV] at o
  clear hq
  have M2 := Lib.hid m
  obtain ⟨ol, o2⟩ := o
  have hkl : (keysL ks).length = ks.length := by simp [keysL]
  rw [hkl] at o2
  rcases o2 with ⟨rfl, hn⟩ | ⟨g, cap, cur, rfl, hg, hh, hcap, _, _, htk⟩
  · have hks : ks = [] := by simpa using hn
    subst hks
    clear ol hn m c3 hkl
    go_wp2_with fail
    go_loopw [3, 13] (fun v i wr => v = .slice none 0 0 ∧ i = .int .i64 0 ∧ wr = w2) (fun _ _ _ => 0)
    case atStart => exact ⟨rfl, rfl, rfl⟩
    case round =>
      obtain ⟨rfl, rfl, rfl⟩ := hrel
      go_wp2_with fail
      go_ret
      exact ⟨_, rfl, World.ownsRow_nil _ _ _ _, M2.out⟩
  · have hc : ∀ k x r, ks[k]? = some (x, r) → w2.cell? ⟨g, k, none⟩ = some (.int .i64 x) := by
      intro k x r hk
      have hlt : k < ks.length := (List.getElem?_eq_some_iff.1 hk).1
      have h1 := (show Blk w2 g cur _ from hh).cell k
      rw [h1, ← Array.getElem?_toList]
      have h2 := congrArg (fun l => l[k]?) htk
      simp only [List.getElem?_take] at h2
      rw [if_pos (by omega)] at h2
      rw [h2]
      simp [keysL, hk]
    have HC := Lib.hid hc
    have HG : Hid (g < w2.heap.size) := by show _ < _; exact (show Blk w2 g cur _ from hh).lt
    have hbd : ks.length ≤ cap := hcap
    clear ol hh hcap htk m c3 hc hg hkl
    go_wp2_with fail
    go_loopw [3, 13] (fun v i wr => ∃ k : Nat, i = .int .i64 k ∧ k ≤ ks.length ∧ Hid (wr.ownsRow w2.heap.size 45 3 v k (rqL (ks.take k))) ∧ Mod (fun _ => False) w2 wr) (fun _ i _ => ks.length - (intOf i).toNat)
    case atStart => exact ⟨0, rfl, Nat.zero_le _, World.ownsRow_nil _ _ _ _, Mod.refl _ _⟩
    case round =>
      obtain ⟨k, rfl, hk, hown, hm⟩ := hrel
      by_cases hlt : (k : Int) < ks.length
      · obtain ⟨⟨x, r⟩, hkr⟩ : ∃ q, ks[k]? = some q := ⟨_, List.getElem?_eq_getElem (by omega)⟩
        have hmem : (x, r) ∈ ks := List.mem_of_getElem? hkr
        have ck := hm.cell (HC.out k x r hkr) (fun h => h)
        have hT := (HT.out.new M2.out).new hm
        have hl : (Instr.lookup 77 (.map (some M)) (.int .i64 x) false).run Tryd.prog wr = .ok (.agg #[.int .i64 r.p, .int .i64 x, .int .i64 r.t]) wr := by
          have := hT.map.look Tryd.underlying3 Tryd.underlying77 (zeroRq _) (HI.out _ hmem)
          rw [lk_mpV, lk_of_mem HRI.out hmem] at this
          exact this
        have c3 : wr.cell? ⟨b, 3, none⟩ = some (.map (some M)) := hT.head.cell 3
        have HM := Lib.hid hm
        have HTK := Lib.hid (rqL_take ks k x r hkr)
        clear hT hmem hkr hm
        go_wp2_with (at_builtin; refine appK rfl (.tmp 17) (.tmp 24) 39 45 3 rfl Tryd.underlying39 infoRq rfl (by decide) _ _ _ #[.int .i64 r.p, .int .i64 x, .int .i64 r.t] rfl HM.out hown.out rfl rfl (by simp [Value.oneCell']) (by decide) (by omega) ?_; intro v' w' g1 g2 _)
        have G1 := Lib.hid g1
        clear g1
        go_wp2_with fail
        go_roundw
        case rel => exact ⟨k + 1, by go_num, by omega, by show World.ownsRow _ _ _ _ _ _ _; rw [HTK.out]; exact G1.out, g2⟩
        case measure => simp [intOf]; omega
      · have hkn : k = ks.length := by omega
        have hO := hown.out
        rw [hkn, List.take_length] at hO
        have HO := Lib.hid hO
        have HM := Lib.hid hm
        clear hkn hm hown hO
        go_wp2_with fail
        go_ret
        exact ⟨_, rfl, HO.out.mono M2.out.size, M2.out.trans HM.out⟩
end Go.Proofs.YtfopglaagnbacaaDoor.Fl
