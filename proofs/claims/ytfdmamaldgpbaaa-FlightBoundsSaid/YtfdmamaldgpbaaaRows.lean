/-
  No cell of these rows narrows 'for every input' (looked for: loops, veiled, ifaces, maps, wideKeys, modest, calm, conditions, laid).
  DERIVED. THE GIVEN ROWS OF THIS SEAT. 5 by the template 'for every input the law returns true; each argument reads behind the call as it read before'; 0 by the template 'total and deterministic' (their statements: YtfdmamaldgpbaaaTotals.lean).
  GIVEN WITH THE SEED: the statements are not yours to turn. If you find one false, say at which input.
  Laid BY PROGRAM, IN A SANDBOX (cutbox-rows.mjs): the forced cells as the released guide's own fill.sh prints them over the translation 1c991fdd5f5694e8… (all of the seat's roots in one cut). By AI agents, Wed Nov 11 2026. No macro, syntax, notation, axiom, sorry.
-/
import Derived.Test.YtfdmamaldgpbaaaChecked
import GoSem.Claim
import GoSem.ClaimJoined
import GoSem.ClaimMapViews
import Derived.JoinedTies
import Derived.KernelRfl
namespace Go.Proofs.Ytfdmamaldgpbaaa
/- THE CELL 'sum', in the pinned program and in every row, IS THE sha256 OF THE DUMP (.gsa) THAT YtfdmamaldgpbaaaProg.lean LOADS. Nothing in Lean hashes anything: it is a label: what it is worth is what the hold of that sum in a sandbox is worth. -/
noncomputable def Try.pinned : Pinned := { name := "ytfdmamaldgpbaaa", sum := "1c991fdd5f5694e82eb73fc44f22120ff859d3bd9165d74c639302616f8af513", checked := Try.checked }
namespace Rows
def none {H : Type} : Left H := { results := [], args := [] }

/-- 'starlinglaw16.FlightScripts': WHATEVER THE INPUT: true; the input reads as it did. -/
def flightScriptsSpec : ChangeSpec := { name := "flightScripts", fn := fun _ => fun
  | [d1, d2] => { results := [.lit (.bool true)], args := [d1, d2] }
  | _ => none }
def flightScriptsRow : OpenClaim := { program := "ytfdmamaldgpbaaa", sum := "1c991fdd5f5694e82eb73fc44f22120ff859d3bd9165d74c639302616f8af513", func := "starling/starlinglaw16.FlightScripts", spec := "flightScripts", unfollowed := true, recurses := true, apart := false }
def FlightScriptsSaid : Prop := flightScriptsRow.holds Try.pinned (OpenSpec.ofChange flightScriptsSpec)

/-- ITS FALSE NEIGHBOUR: 'it returns false'. Refute it at one input. -/
def flightScriptsWrong : ChangeSpec := { name := "flightScripts", fn := fun _ => fun
  | [d1, d2] => { results := [.lit (.bool false)], args := [d1, d2] }
  | _ => none }
def FlightScriptsWrongFalsely : Prop := flightScriptsRow.holds Try.pinned (OpenSpec.ofChange flightScriptsWrong)

/-- 'starlinglaw16.FlightBounds': WHATEVER THE INPUT: true; the input reads as it did. -/
def flightBoundsSpec : ChangeSpec := { name := "flightBounds", fn := fun _ => fun
  | [d1, d2] => { results := [.lit (.bool true)], args := [d1, d2] }
  | _ => none }
def flightBoundsRow : OpenClaim := { program := "ytfdmamaldgpbaaa", sum := "1c991fdd5f5694e82eb73fc44f22120ff859d3bd9165d74c639302616f8af513", func := "starling/starlinglaw16.FlightBounds", spec := "flightBounds", unfollowed := true, recurses := true, apart := false }
def FlightBoundsSaid : Prop := flightBoundsRow.holds Try.pinned (OpenSpec.ofChange flightBoundsSpec)

/-- ITS FALSE NEIGHBOUR: 'it returns false'. Refute it at one input. -/
def flightBoundsWrong : ChangeSpec := { name := "flightBounds", fn := fun _ => fun
  | [d1, d2] => { results := [.lit (.bool false)], args := [d1, d2] }
  | _ => none }
def FlightBoundsWrongFalsely : Prop := flightBoundsRow.holds Try.pinned (OpenSpec.ofChange flightBoundsWrong)

/-- 'starlinglaw16.FlightOnce': WHATEVER THE INPUT: true; the input reads as it did. -/
def flightOnceSpec : ChangeSpec := { name := "flightOnce", fn := fun _ => fun
  | [d1, d2] => { results := [.lit (.bool true)], args := [d1, d2] }
  | _ => none }
def flightOnceRow : OpenClaim := { program := "ytfdmamaldgpbaaa", sum := "1c991fdd5f5694e82eb73fc44f22120ff859d3bd9165d74c639302616f8af513", func := "starling/starlinglaw16.FlightOnce", spec := "flightOnce", unfollowed := true, recurses := true, apart := false }
def FlightOnceSaid : Prop := flightOnceRow.holds Try.pinned (OpenSpec.ofChange flightOnceSpec)

/-- ITS FALSE NEIGHBOUR: 'it returns false'. Refute it at one input. -/
def flightOnceWrong : ChangeSpec := { name := "flightOnce", fn := fun _ => fun
  | [d1, d2] => { results := [.lit (.bool false)], args := [d1, d2] }
  | _ => none }
def FlightOnceWrongFalsely : Prop := flightOnceRow.holds Try.pinned (OpenSpec.ofChange flightOnceWrong)

/-- 'starlinglaw16.FlightRoom': WHATEVER THE INPUT: true; the input reads as it did. -/
def flightRoomSpec : ChangeSpec := { name := "flightRoom", fn := fun _ => fun
  | [d1, d2] => { results := [.lit (.bool true)], args := [d1, d2] }
  | _ => none }
def flightRoomRow : OpenClaim := { program := "ytfdmamaldgpbaaa", sum := "1c991fdd5f5694e82eb73fc44f22120ff859d3bd9165d74c639302616f8af513", func := "starling/starlinglaw16.FlightRoom", spec := "flightRoom", unfollowed := true, recurses := true, apart := false }
def FlightRoomSaid : Prop := flightRoomRow.holds Try.pinned (OpenSpec.ofChange flightRoomSpec)

/-- ITS FALSE NEIGHBOUR: 'it returns false'. Refute it at one input. -/
def flightRoomWrong : ChangeSpec := { name := "flightRoom", fn := fun _ => fun
  | [d1, d2] => { results := [.lit (.bool false)], args := [d1, d2] }
  | _ => none }
def FlightRoomWrongFalsely : Prop := flightRoomRow.holds Try.pinned (OpenSpec.ofChange flightRoomWrong)

/-- 'starlinglaw16.FlightDrops': WHATEVER THE INPUT: true; the input reads as it did. -/
def flightDropsSpec : ChangeSpec := { name := "flightDrops", fn := fun _ => fun
  | [d1, d2, d3] => { results := [.lit (.bool true)], args := [d1, d2, d3] }
  | _ => none }
def flightDropsRow : OpenClaim := { program := "ytfdmamaldgpbaaa", sum := "1c991fdd5f5694e82eb73fc44f22120ff859d3bd9165d74c639302616f8af513", func := "starling/starlinglaw16.FlightDrops", spec := "flightDrops", unfollowed := true, recurses := true, apart := false }
def FlightDropsSaid : Prop := flightDropsRow.holds Try.pinned (OpenSpec.ofChange flightDropsSpec)

/-- ITS FALSE NEIGHBOUR: 'it returns false'. Refute it at one input. -/
def flightDropsWrong : ChangeSpec := { name := "flightDrops", fn := fun _ => fun
  | [d1, d2, d3] => { results := [.lit (.bool false)], args := [d1, d2, d3] }
  | _ => none }
def FlightDropsWrongFalsely : Prop := flightDropsRow.holds Try.pinned (OpenSpec.ofChange flightDropsWrong)

/- THE SECOND FORM. 'bulk': how many values and letters a reading holds, each counted each time it is reached (what is shared counts as often as it is met; a slice's spare places count too). A statement '..UptoSaid' is the law's where the arguments, and the package variables that the reading takes, are together of bulk at most 1048576: NARROWER than '..Said'. Prove '..Said' where nothing that the law and all that it calls make is longer than what came in: it says more and counts as full. Else prove '..UptoSaid'. A law counts once. -/
mutual
def uptoBulk {H : Type} : DataW H → Nat
  | .lit (.string bytes) => bytes.length + 1
  | .lit _ => 1
  | .nil => 1
  | .ptr d => uptoBulk d + 1
  | .slice elems spare => uptoBulkAll elems + uptoBulkAll spare + 1
  | .agg parts => uptoBulkAll parts + 1
  | .iface _ d => uptoBulk d + 1
  | .map entries => uptoBulkEntries entries + 1
  | .held _ => 1
def uptoBulkAll {H : Type} : List (DataW H) → Nat
  | [] => 0
  | d :: r => uptoBulk d + uptoBulkAll r
def uptoBulkEntries {H : Type} : List (Lit × DataW H) → Nat
  | [] => 0
  | x :: r => uptoBulkEntry x + uptoBulkEntries r
def uptoBulkEntry {H : Type} : Lit × DataW H → Nat
  | (.string bytes, d) => bytes.length + uptoBulk d + 1
  | (_, d) => uptoBulk d + 1
 end
def uptoSmall : (H : Type) → List (DataW H) → Bool := fun _ ds => decide (uptoBulkAll ds ≤ 1048576)
def OpenSpec.upto (s : _root_.Go.ChangeSpec) : _root_.Go.OpenSpec := { _root_.Go.OpenSpec.ofChange s with cond := some uptoSmall }

/-- 'starlinglaw16.FlightScripts', WHERE WHAT IT READS IS OF BULK AT MOST 1048576: true; the input reads as it did. -/
def flightScriptsUptoRow : OpenClaim := { program := "ytfdmamaldgpbaaa", sum := "1c991fdd5f5694e82eb73fc44f22120ff859d3bd9165d74c639302616f8af513", func := "starling/starlinglaw16.FlightScripts", spec := "flightScripts", unfollowed := true, recurses := true, apart := false, narrowed := true }
def FlightScriptsUptoSaid : Prop := flightScriptsUptoRow.holds Try.pinned (OpenSpec.upto flightScriptsSpec)

/-- 'starlinglaw16.FlightBounds', WHERE WHAT IT READS IS OF BULK AT MOST 1048576: true; the input reads as it did. -/
def flightBoundsUptoRow : OpenClaim := { program := "ytfdmamaldgpbaaa", sum := "1c991fdd5f5694e82eb73fc44f22120ff859d3bd9165d74c639302616f8af513", func := "starling/starlinglaw16.FlightBounds", spec := "flightBounds", unfollowed := true, recurses := true, apart := false, narrowed := true }
def FlightBoundsUptoSaid : Prop := flightBoundsUptoRow.holds Try.pinned (OpenSpec.upto flightBoundsSpec)

/-- 'starlinglaw16.FlightOnce', WHERE WHAT IT READS IS OF BULK AT MOST 1048576: true; the input reads as it did. -/
def flightOnceUptoRow : OpenClaim := { program := "ytfdmamaldgpbaaa", sum := "1c991fdd5f5694e82eb73fc44f22120ff859d3bd9165d74c639302616f8af513", func := "starling/starlinglaw16.FlightOnce", spec := "flightOnce", unfollowed := true, recurses := true, apart := false, narrowed := true }
def FlightOnceUptoSaid : Prop := flightOnceUptoRow.holds Try.pinned (OpenSpec.upto flightOnceSpec)

/-- 'starlinglaw16.FlightRoom', WHERE WHAT IT READS IS OF BULK AT MOST 1048576: true; the input reads as it did. -/
def flightRoomUptoRow : OpenClaim := { program := "ytfdmamaldgpbaaa", sum := "1c991fdd5f5694e82eb73fc44f22120ff859d3bd9165d74c639302616f8af513", func := "starling/starlinglaw16.FlightRoom", spec := "flightRoom", unfollowed := true, recurses := true, apart := false, narrowed := true }
def FlightRoomUptoSaid : Prop := flightRoomUptoRow.holds Try.pinned (OpenSpec.upto flightRoomSpec)

/-- 'starlinglaw16.FlightDrops', WHERE WHAT IT READS IS OF BULK AT MOST 1048576: true; the input reads as it did. -/
def flightDropsUptoRow : OpenClaim := { program := "ytfdmamaldgpbaaa", sum := "1c991fdd5f5694e82eb73fc44f22120ff859d3bd9165d74c639302616f8af513", func := "starling/starlinglaw16.FlightDrops", spec := "flightDrops", unfollowed := true, recurses := true, apart := false, narrowed := true }
def FlightDropsUptoSaid : Prop := flightDropsUptoRow.holds Try.pinned (OpenSpec.upto flightDropsSpec)

end Rows
end Go.Proofs.Ytfdmamaldgpbaaa
