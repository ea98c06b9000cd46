/- The walk of the statement RarestOwn: the call returns true and turns nothing that was there; no condition but the table. -/
import Derived.Test.YtfopglaagnbacaaDoorRaT
namespace Go.Proofs.YtfopglaagnbacaaDoor
open Go Go.RowKit

theorem IsRow.bytes {w : World} {a : Option Addr} {len cap : Nat} {zs : List Int} (h : IsRow .u8 w a len cap zs) : ∃ bs : List Nat, bs.length = len ∧ (∀ x ∈ bs, x < 256) ∧ Sl w (.slice a len cap) 1 len (byts bs) := by
  have hs := h.sl
  have hwf : ∀ n ∈ zs.take len, 0 ≤ n ∧ n < 256 := by
    intro n hn
    have hm : n ∈ zs := List.mem_of_mem_take hn
    rcases h with ⟨_, _, _, rfl⟩ | ⟨_, _, _, _, _, _, h⟩
    · cases hm
    · have := h n hm
      simp [Lit.wf, IntKind.min, IntKind.max, IntKind.signed, IntKind.bits] at this
      omega
  have hl := hs.len
  generalize zs.take len = xs at hs hwf hl
  refine ⟨xs.map Int.toNat, by simpa using hl, ?_, ?_⟩
  · intro x hx
    obtain ⟨n, hn, rfl⟩ := List.mem_map.1 hx
    have := hwf n hn
    omega
  · have : byts (xs.map Int.toNat) = xs.map (Value.int .u8) := by
      unfold byts
      rw [List.map_map]
      apply List.map_congr_left
      intro n hn
      have := hwf n hn
      show Value.int .u8 ((n.toNat : Nat) : Int) = _
      rw [Int.toNat_of_nonneg this.1]
    rw [this]; exact hs

theorem strB {w : World} {v : Value} {m : Nat} {bs : List Nat} (h : Sl w v 1 m (byts bs)) : (convert 32 9 v).run Tryd.prog w = .ok (.string (strOf bs)) w :=
  str_conv w 32 9 5 Tryd.underlying32 Tryd.underlying5 Tryd.underlying9 v m bs h
theorem Mod.bel {w w' : World} (h : Mod (fun _ => False) w w') : Below w.heap.size w w' := h.below (Nat.le_refl _) (fun _ h => h.elim)

end Go.Proofs.YtfopglaagnbacaaDoor
