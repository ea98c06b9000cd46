/- Package strikes: Known; no condition. -/
import Derived.Test.YtiabjaaamgjlnaaKeysL
import Derived.Test.YtiabjaaamgjlnaaStrB
namespace Go.Proofs.Ytiabjaaamgjlnaa
open Go Go.RowKit

theorem keys_mp (ks : List (Int × Rc)) : keysL (mp ks) = keysL ks := by
  simp [mp, keysL, List.map_map]
set_option maxRecDepth 100000 in
set_option maxHeartbeats 400000 in
theorem strKnown (b M : Nat) (lim ban most : Int) (ks : List (Int × Rc)) (w : World) (h : BK w b M lim ban most ks) (hlen : ks.length ≤ 1000) :
    Calls Try.prog 16 #[.pointer (some ⟨b, 0, none⟩)] w (IntsP (keysL ks) w) := by
  have c3 : w.cell? ⟨b, 3, none⟩ = some (.map (some M)) := h.head.cell 3
  have hk := Try.maps_Keys_26 (some M) w
  have hs := Try.slices_Sorted_keys_26 M _ (toD (mp ks)) RV w h.map.owns (by rw [size_toD, mp_len]; unfold maxLen; omega) (by rw [size_toD, mp_len]; omega)
  have hr := h.map.rising
  have HK := Lib.hid hk
  have HS := Lib.hid hs
  have HR := Lib.hid hr
  clear h hk hs hr
  go_enter Try.func16, Try.ntmps16
  go_wp2_with fail
  refine HK.out.mono ?_; rintro e w1 ⟨rfl, rfl⟩
  go_wp2_with fail
  refine HS.out.mono ?_; rintro e w2 hq
  have hq2 := IntsP.of_sorted HR.out ((Mod.refl (fun _ => False) w).alloc _) hq
  obtain ⟨v, rfl, o, m⟩ := hq2
  rw [keys_mp] at o
  clear hq
  go_wp2_with fail
  go_ret
  exact ⟨v, rfl, o, m⟩
end Go.Proofs.Ytiabjaaamgjlnaa
