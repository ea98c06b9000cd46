/- Package flight: Drop. -/
import Derived.Test.YtfdmamaldgpbaaaFlE
namespace Go.Proofs.Ytfdmamaldgpbaaa
open Go Go.RowKit

set_option maxRecDepth 100000 in
set_option maxHeartbeats 400000 in
theorem flDrop (q : Int) (b M : Nat) (most each pat : Int) (ks : List (Int × Rq)) (w : World) (h : TB w b M most each pat ks) (hlen : ks.length ≤ 1000) (hI : ∀ q ∈ ks, I64 q.1) :
    Calls Try.prog 20 #[.pointer (some ⟨b, 0, none⟩), .int .i64 q] w fun e w' => (∃ v, e = .returned v ∧ w'.ownsRow w.heap.size 41 3 v (ks.filter fun x => x.2.p == q).length (rqL (ks.filter fun x => x.2.p == q))) ∧ TB w' b M most each pat (ks.filter fun x => !(x.2.p == q)) ∧ Mod (· = M) w w' := by
  have m1 := (Mod.refl (fun _ => False) w).alloc (.cells #[.int .i64 q] 3)
  have H1 := Lib.hid (h.new m1)
  have B1 := Lib.hid (Blk.new w #[.int .i64 q] 3)
  have hlt := h.lt
  have HM1 := Lib.hid m1
  clear h m1
  go_enter Try.func20, Try.ntmps20
  go_wp2_with fail
  refine (flOut 31 #[.pointer (some ⟨w.heap.size, 0, none⟩)] (fun x => x.2.p == q) b M most each pat ks _ H1.out hlen hI (fun _ _ => rfl) (fun w' ks' k r _ hm _ => flDrop1 r.p k r.t q w.heap.size w' (hm.cell (B1.out.cell 0) (by show ¬ w.heap.size = M; omega)))).mono ?_
  rintro e w2 ⟨⟨v, rfl, o⟩, t2, m2⟩
  go_wp2_with fail
  go_ret
  exact ⟨⟨v, rfl, o.mono HM1.out.size⟩, t2, (HM1.out.mono (fun _ _ h => h.elim)).trans m2⟩
end Go.Proofs.Ytfdmamaldgpbaaa
