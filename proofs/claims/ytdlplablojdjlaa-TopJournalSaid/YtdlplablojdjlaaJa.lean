/- Package journal: number, told, head; bytes as slices; no condition. -/
import Derived.Test.YtdlplablojdjlaaBitsS
import Derived.Test.YtdlplablojdjlaaBitsB
import Derived.Test.YtdlplablojdjlaaRegO
import Derived.Deep.QuietTactic
import Derived.BigQuiet
namespace Go.Proofs.Ytdlplablojdjlaa
open Go Go.RowKit Go.IntWalk

/-- A slice of bytes. -/
structure BS (w : World) (v : Value) (bs : List Nat) : Prop where
  sl : Sl w v 1 bs.length (byts bs)
  cap : ∀ x n c, v = .slice (some x) n c → n ≤ c
theorem BS.byt {w : World} {v : Value} {bs : List Nat} (h : BS w v bs) (k : Nat) (hk : k < bs.length) : ∃ x c, v = .slice (some x) bs.length c ∧ w.cell? (x.add k) = some (.int .u8 (bs.getD k 0 : Nat)) := h.sl.byt k hk
/-- A slice of bytes of the call's own. -/
def OB (w : World) (base : Nat) (v : Value) (bs : List Nat) : Prop := w.ownsRow base 5 1 v bs.length (byts bs)
def B8 (bs : List Nat) : Prop := ∀ x ∈ bs, x < 256
theorem OB.bs {w : World} {base : Nat} {v : Value} {bs : List Nat} (h : OB w base v bs) : BS w v bs := ⟨World.ownsRow.sl h, fun x n c e => by
  obtain ⟨a, cap, hv, hl, _⟩ := World.ownsRow.els h
  rw [hv] at e
  cases e
  exact hl⟩
theorem BS.mod {S : Nat → Prop} {w w' : World} {v : Value} {bs : List Nat} (h : BS w v bs) (hm : Mod S w w') (hS : ∀ x n c, v = .slice (some x) n c → ¬ S x.block) : BS w' v bs := ⟨Sl.mod h.sl hm hS, h.cap⟩
theorem BS.new {w w' : World} {v : Value} {bs : List Nat} (h : BS w v bs) (hm : Mod (fun _ => False) w w') : BS w' v bs := h.mod hm fun _ _ _ _ h => h
theorem OB.mod {S : Nat → Prop} {w w' : World} {base : Nat} {v : Value} {bs : List Nat} (h : OB w base v bs) (hm : Mod S w w') (hS : ∀ i, v.ownBlock = some i → ¬ S i) : OB w' base v bs := by
  obtain ⟨h1, h2⟩ := h
  rcases h2 with h2 | ⟨g, cap, cur, hv, hb, hh, rest⟩
  · exact ⟨h1, .inl h2⟩
  · exact ⟨h1, .inr ⟨g, cap, cur, hv, hb, (show Blk w g cur _ from hh).mod hm (hS g (by rw [hv]; rfl)), rest⟩⟩
theorem OB.new {w w' : World} {base : Nat} {v : Value} {bs : List Nat} (h : OB w base v bs) (hm : Mod (fun _ => False) w w') : OB w' base v bs := h.mod hm fun _ _ h => h
theorem infoU8' : (Try.prog.info? 5).map (fun i => (i.zero, i.size, i.bytes)) = some (some (.int .u8 0), 1, 1) := by kernel_rfl
theorem byts_append (a b : List Nat) : byts (a ++ b) = byts a ++ byts b := by unfold byts; rw [List.map_append]
theorem byts_len (a : List Nat) : (byts a).length = a.length := by unfold byts; rw [List.length_map]
theorem byts_one (a : List Nat) : ∀ u ∈ byts a, u.oneCell' = true := by
  unfold byts
  intro u hu
  obtain ⟨x, _, rfl⟩ := List.mem_map.1 hu
  rfl
theorem owns_alloc (w : World) (base : Nat) (bs : List Nat) (hb : base ≤ w.heap.size) (hl : bs.length ≤ maxLen) : OB (w.alloc (.cells (byts bs).toArray 5)) base (.slice (some ⟨w.heap.size, 0, none⟩) bs.length bs.length) bs :=
  ⟨by rw [byts_len]; simp, .inr ⟨w.heap.size, bs.length, (byts bs).toArray, rfl, hb, heap_alloc_new w _, Nat.le_refl _, hl, by simp, by rw [Nat.mul_one]; exact List.take_of_length_le (by rw [byts_len]; exact Nat.le_refl _)⟩⟩

/-- A number in four bytes. -/
def num4 (n : Nat) : List Nat := [n % 256, n / 256 % 256, n / 65536 % 256, n / 16777216 % 256]
set_option maxHeartbeats 400000 in
theorem jNumber (n : Nat) (w : World) (h : n < 4294967296) :
    Calls Try.prog 58 #[.int .i64 n] w fun e w' => ∃ v, e = .returned v ∧ OB w' w.heap.size v (num4 n) ∧ Mod (fun _ => False) w w' := by
  go_enter Try.func58, Try.ntmps58
  go_wp2_with fail
  go_ret
  refine ⟨_, rfl, ?_, (Mod.refl _ w).alloc _⟩
  have e : (byts (num4 n)).toArray = #[.int .u8 ((n : Int) % 256), .int .u8 ((n : Int) / 256 % 256), .int .u8 ((n : Int) / 65536 % 256), .int .u8 ((n : Int) / 16777216)] := by
    unfold num4 byts
    simp
    omega
  have h2 := owns_alloc w w.heap.size (num4 n) (Nat.le_refl _) (by unfold num4 maxLen; simp)
  rw [e] at h2
  exact h2
theorem bits_or_i64_nat (a b : Nat) (ha : a < 9223372036854775808) (hb : b < 9223372036854775808) : bits .or .i64 (a : Int) (b : Int) = ((a ||| b : Nat) : Int) := by
  have h1 : a ||| b < 2 ^ 63 := Nat.or_lt_two_pow ha hb
  have e1 : (BitVec.ofInt 64 (a : Int)).toNat = a := by
    rw [BitVec.ofInt_natCast, BitVec.toNat_ofNat]; exact Nat.mod_eq_of_lt (by omega)
  have e2 : (BitVec.ofInt 64 (b : Int)).toNat = b := by
    rw [BitVec.ofInt_natCast, BitVec.toNat_ofNat]; exact Nat.mod_eq_of_lt (by omega)
  show IntKind.i64.wrap ((BitVec.ofInt 64 (a : Int) ||| BitVec.ofInt 64 (b : Int)).toNat : Int) = _
  rw [BitVec.toNat_or, e1, e2]
  unfold IntKind.wrap
  simp [IntKind.bits, IntKind.signed]
  omega
theorem or_add {a b k : Nat} (h : a < 2 ^ k) : a ||| (b * 2 ^ k) = a + b * 2 ^ k := by
  rw [Nat.mul_comm b, Nat.or_comm, Nat.add_comm]
  exact (Nat.two_pow_add_eq_or_of_lt h b).symm
theorem wrapI {x : Int} (h1 : 0 ≤ x) (h2 : x < 9223372036854775808) : IntKind.i64.wrap x = x := by
  unfold IntKind.wrap
  simp [IntKind.bits, IntKind.signed]
  omega
theorem told_eq (n : Nat) (h : n < 4294967296) : bits .or .i64 (bits .or .i64 (bits .or .i64 (IntKind.i64.wrap ((n : Int) % 256)) (IntKind.i64.wrap (IntKind.i64.wrap ((n : Int) / 256 % 256) * 256))) (IntKind.i64.wrap (IntKind.i64.wrap ((n : Int) / 65536 % 256) * 65536))) (IntKind.i64.wrap (IntKind.i64.wrap ((n : Int) / 16777216 % 256) * 16777216)) = n := by
  have a0 : (n : Int) % 256 = ((n % 256 : Nat) : Int) := by omega
  have a1 : (n : Int) / 256 % 256 * 256 = ((n / 256 % 256 * 2 ^ 8 : Nat) : Int) := by omega
  have a2 : (n : Int) / 65536 % 256 * 65536 = ((n / 65536 % 256 * 2 ^ 16 : Nat) : Int) := by omega
  have a3 : (n : Int) / 16777216 % 256 * 16777216 = ((n / 16777216 % 256 * 2 ^ 24 : Nat) : Int) := by omega
  rw [wrapI (x := (n : Int) % 256) (by omega) (by omega), wrapI (x := (n : Int) / 256 % 256) (by omega) (by omega), wrapI (x := (n : Int) / 65536 % 256) (by omega) (by omega), wrapI (x := (n : Int) / 16777216 % 256) (by omega) (by omega), wrapI (x := (n : Int) / 256 % 256 * 256) (by omega) (by omega), wrapI (x := (n : Int) / 65536 % 256 * 65536) (by omega) (by omega), wrapI (x := (n : Int) / 16777216 % 256 * 16777216) (by omega) (by omega)]
  rw [a0, a1, a2, a3, bits_or_i64_nat _ _ (by omega) (by omega), or_add (by omega), bits_or_i64_nat _ _ (by omega) (by omega), or_add (by omega), bits_or_i64_nat _ _ (by omega) (by omega), or_add (by omega)]
  omega
theorem jTold (n : Nat) (v : Value) (rest : List Nat) (w : World) (h : n < 4294967296) (hs : BS w v (num4 n ++ rest)) :
    Calls Try.prog 39 #[v] w fun e w' => e = .returned (.int .i64 n) ∧ ∃ m, w' = w.drewN m := by
  have hl : (num4 n ++ rest).length = rest.length + 4 := by unfold num4; simp
  obtain ⟨x, c, rfl, p0⟩ := hs.byt 0 (by omega)
  obtain ⟨x1, c1, e, p1⟩ := hs.byt 1 (by omega); cases e
  obtain ⟨x1, c1, e, p2⟩ := hs.byt 2 (by omega); cases e
  obtain ⟨x1, c1, e, p3⟩ := hs.byt 3 (by omega); cases e
  rw [show (num4 n ++ rest).getD 0 0 = n % 256 from rfl] at p0
  rw [show (num4 n ++ rest).getD 1 0 = n / 256 % 256 from rfl] at p1
  rw [show (num4 n ++ rest).getD 2 0 = n / 65536 % 256 from rfl] at p2
  rw [show (num4 n ++ rest).getD 3 0 = n / 16777216 % 256 from rfl] at p3
  obtain ⟨m, hm⟩ : ∃ m, m = (num4 n ++ rest).length := ⟨_, rfl⟩
  rw [← hm] at hs ⊢
  have hn1 : 0 < m := by omega
  have hn2 : 1 < m := by omega
  have hn3 : 2 < m := by omega
  have hn4 : 3 < m := by omega
  rw [show x.add 0 = x by simp [Addr.add]] at p0
  rw [show x.add 1 = ⟨x.block, x.off + 1, none⟩ by simp [Addr.add]] at p1
  rw [show x.add 2 = ⟨x.block, x.off + 2, none⟩ by simp [Addr.add]] at p2
  rw [show x.add 3 = ⟨x.block, x.off + 3, none⟩ by simp [Addr.add]] at p3
  have hm1 : (0 : Int) < m := by omega
  have hm2 : (1 : Int) < m := by omega
  have hm3 : (2 : Int) < m := by omega
  have hm4 : (3 : Int) < m := by omega
  clear hm hs hl
  go_enter Try.func39, Try.ntmps39
  go_wp2_with fail
  refine wp_region2 [] [] (by kernel_rfl) (by kernel_rfl) ?_
  repeat (first | (refine reg_anyT (by rfl) (fun K hK => ?_); go_simp; refine hK _ _ ?_; clear hK K) | (refine reg_read (by rfl) (fun K hK => ?_); go_simp; refine hK _ _ ?_; clear hK K))
  refine reg_nil (fun nd => ?_)
  go_wp2_with fail
  go_ret
  refine ⟨?_, _, rfl⟩
  simp [told_eq n h]
end Go.Proofs.Ytdlplablojdjlaa
