/-
  No cell of these rows narrows 'for every input' (looked for: loops, veiled, ifaces, maps, wideKeys, modest, calm, conditions, laid).
  DERIVED. THE GIVEN ROWS OF THIS SEAT. 7 by the template 'for every input the law returns true; each argument reads behind the call as it read before'; 0 by the template 'total and deterministic' (their statements: YthhmjaaoidhciaaTotals.lean).
  GIVEN WITH THE SEED: the statements are not yours to turn. If you find one false, say at which input.
  Laid BY PROGRAM, IN A SANDBOX (cutbox-rows.mjs): the forced cells as the released guide's own fill.sh prints them over the translation c2c5b4efb5e353f0… (all of the seat's roots in one cut). By AI agents, Wed Nov 11 2026. No macro, syntax, notation, axiom, sorry.
-/
import Derived.Test.YthhmjaaoidhciaaChecked
import GoSem.Claim
import GoSem.ClaimJoined
import GoSem.ClaimMapViews
import Derived.JoinedTies
import Derived.KernelRfl
namespace Go.Proofs.Ythhmjaaoidhciaa
/- THE CELL 'sum', in the pinned program and in every row, IS THE sha256 OF THE DUMP (.gsa) THAT YthhmjaaoidhciaaProg.lean LOADS. Nothing in Lean hashes anything: it is a label: what it is worth is what the hold of that sum in a sandbox is worth. -/
noncomputable def Try.pinned : Pinned := { name := "ythhmjaaoidhciaa", sum := "c2c5b4efb5e353f02540d06e0ce0b1935050f06e70c1af0712cdcdc4aacd6e09", checked := Try.checked }
namespace Rows
def none {H : Type} : Left H := { results := [], args := [] }

/-- 'starlinglaw10.DrawNumbers': WHATEVER THE INPUT: true; the input reads as it did. -/
def drawNumbersSpec : ChangeSpec := { name := "drawNumbers", fn := fun _ => fun
  | [d1, d2] => { results := [.lit (.bool true)], args := [d1, d2] }
  | _ => none }
def drawNumbersRow : OpenClaim := { program := "ythhmjaaoidhciaa", sum := "c2c5b4efb5e353f02540d06e0ce0b1935050f06e70c1af0712cdcdc4aacd6e09", func := "starling/starlinglaw10.DrawNumbers", spec := "drawNumbers", apart := false }
def DrawNumbersSaid : Prop := drawNumbersRow.holds Try.pinned (OpenSpec.ofChange drawNumbersSpec)

/-- ITS FALSE NEIGHBOUR: 'it returns false'. Refute it at one input. -/
def drawNumbersWrong : ChangeSpec := { name := "drawNumbers", fn := fun _ => fun
  | [d1, d2] => { results := [.lit (.bool false)], args := [d1, d2] }
  | _ => none }
def DrawNumbersWrongFalsely : Prop := drawNumbersRow.holds Try.pinned (OpenSpec.ofChange drawNumbersWrong)

/-- 'starlinglaw10.DrawApart': WHATEVER THE INPUT: true; the input reads as it did. -/
def drawApartSpec : ChangeSpec := { name := "drawApart", fn := fun _ => fun
  | [d1, d2, d3] => { results := [.lit (.bool true)], args := [d1, d2, d3] }
  | _ => none }
def drawApartRow : OpenClaim := { program := "ythhmjaaoidhciaa", sum := "c2c5b4efb5e353f02540d06e0ce0b1935050f06e70c1af0712cdcdc4aacd6e09", func := "starling/starlinglaw10.DrawApart", spec := "drawApart", apart := false }
def DrawApartSaid : Prop := drawApartRow.holds Try.pinned (OpenSpec.ofChange drawApartSpec)

/-- ITS FALSE NEIGHBOUR: 'it returns false'. Refute it at one input. -/
def drawApartWrong : ChangeSpec := { name := "drawApart", fn := fun _ => fun
  | [d1, d2, d3] => { results := [.lit (.bool false)], args := [d1, d2, d3] }
  | _ => none }
def DrawApartWrongFalsely : Prop := drawApartRow.holds Try.pinned (OpenSpec.ofChange drawApartWrong)

/-- 'starlinglaw10.DrawFalls': WHATEVER THE INPUT: true; the input reads as it did. -/
def drawFallsSpec : ChangeSpec := { name := "drawFalls", fn := fun _ => fun
  | [d1, d2, d3] => { results := [.lit (.bool true)], args := [d1, d2, d3] }
  | _ => none }
def drawFallsRow : OpenClaim := { program := "ythhmjaaoidhciaa", sum := "c2c5b4efb5e353f02540d06e0ce0b1935050f06e70c1af0712cdcdc4aacd6e09", func := "starling/starlinglaw10.DrawFalls", spec := "drawFalls", apart := false }
def DrawFallsSaid : Prop := drawFallsRow.holds Try.pinned (OpenSpec.ofChange drawFallsSpec)

/-- ITS FALSE NEIGHBOUR: 'it returns false'. Refute it at one input. -/
def drawFallsWrong : ChangeSpec := { name := "drawFalls", fn := fun _ => fun
  | [d1, d2, d3] => { results := [.lit (.bool false)], args := [d1, d2, d3] }
  | _ => none }
def DrawFallsWrongFalsely : Prop := drawFallsRow.holds Try.pinned (OpenSpec.ofChange drawFallsWrong)

/-- 'starlinglaw10.DrawChances': WHATEVER THE INPUT: true; the input reads as it did. -/
def drawChancesSpec : ChangeSpec := { name := "drawChances", fn := fun _ => fun
  | [d1, d2, d3] => { results := [.lit (.bool true)], args := [d1, d2, d3] }
  | _ => none }
def drawChancesRow : OpenClaim := { program := "ythhmjaaoidhciaa", sum := "c2c5b4efb5e353f02540d06e0ce0b1935050f06e70c1af0712cdcdc4aacd6e09", func := "starling/starlinglaw10.DrawChances", spec := "drawChances", apart := false }
def DrawChancesSaid : Prop := drawChancesRow.holds Try.pinned (OpenSpec.ofChange drawChancesSpec)

/-- ITS FALSE NEIGHBOUR: 'it returns false'. Refute it at one input. -/
def drawChancesWrong : ChangeSpec := { name := "drawChances", fn := fun _ => fun
  | [d1, d2, d3] => { results := [.lit (.bool false)], args := [d1, d2, d3] }
  | _ => none }
def DrawChancesWrongFalsely : Prop := drawChancesRow.holds Try.pinned (OpenSpec.ofChange drawChancesWrong)

/-- 'starlinglaw10.DrawSame': WHATEVER THE INPUT: true; the input reads as it did. -/
def drawSameSpec : ChangeSpec := { name := "drawSame", fn := fun _ => fun
  | [d1, d2] => { results := [.lit (.bool true)], args := [d1, d2] }
  | _ => none }
def drawSameRow : OpenClaim := { program := "ythhmjaaoidhciaa", sum := "c2c5b4efb5e353f02540d06e0ce0b1935050f06e70c1af0712cdcdc4aacd6e09", func := "starling/starlinglaw10.DrawSame", spec := "drawSame", apart := false }
def DrawSameSaid : Prop := drawSameRow.holds Try.pinned (OpenSpec.ofChange drawSameSpec)

/-- ITS FALSE NEIGHBOUR: 'it returns false'. Refute it at one input. -/
def drawSameWrong : ChangeSpec := { name := "drawSame", fn := fun _ => fun
  | [d1, d2] => { results := [.lit (.bool false)], args := [d1, d2] }
  | _ => none }
def DrawSameWrongFalsely : Prop := drawSameRow.holds Try.pinned (OpenSpec.ofChange drawSameWrong)

/-- 'starlinglaw10.DrawShuffles': WHATEVER THE INPUT: true; the input reads as it did. -/
def drawShufflesSpec : ChangeSpec := { name := "drawShuffles", fn := fun _ => fun
  | [d1, d2, d3] => { results := [.lit (.bool true)], args := [d1, d2, d3] }
  | _ => none }
def drawShufflesRow : OpenClaim := { program := "ythhmjaaoidhciaa", sum := "c2c5b4efb5e353f02540d06e0ce0b1935050f06e70c1af0712cdcdc4aacd6e09", func := "starling/starlinglaw10.DrawShuffles", spec := "drawShuffles", apart := false }
def DrawShufflesSaid : Prop := drawShufflesRow.holds Try.pinned (OpenSpec.ofChange drawShufflesSpec)

/-- ITS FALSE NEIGHBOUR: 'it returns false'. Refute it at one input. -/
def drawShufflesWrong : ChangeSpec := { name := "drawShuffles", fn := fun _ => fun
  | [d1, d2, d3] => { results := [.lit (.bool false)], args := [d1, d2, d3] }
  | _ => none }
def DrawShufflesWrongFalsely : Prop := drawShufflesRow.holds Try.pinned (OpenSpec.ofChange drawShufflesWrong)

/-- 'starlinglaw10.DrawCounts': WHATEVER THE INPUT: true; the input reads as it did. -/
def drawCountsSpec : ChangeSpec := { name := "drawCounts", fn := fun _ => fun
  | [d1, d2, d3] => { results := [.lit (.bool true)], args := [d1, d2, d3] }
  | _ => none }
def drawCountsRow : OpenClaim := { program := "ythhmjaaoidhciaa", sum := "c2c5b4efb5e353f02540d06e0ce0b1935050f06e70c1af0712cdcdc4aacd6e09", func := "starling/starlinglaw10.DrawCounts", spec := "drawCounts", apart := false }
def DrawCountsSaid : Prop := drawCountsRow.holds Try.pinned (OpenSpec.ofChange drawCountsSpec)

/-- ITS FALSE NEIGHBOUR: 'it returns false'. Refute it at one input. -/
def drawCountsWrong : ChangeSpec := { name := "drawCounts", fn := fun _ => fun
  | [d1, d2, d3] => { results := [.lit (.bool false)], args := [d1, d2, d3] }
  | _ => none }
def DrawCountsWrongFalsely : Prop := drawCountsRow.holds Try.pinned (OpenSpec.ofChange drawCountsWrong)

/- THE SECOND FORM. 'bulk': how many values and letters a reading holds, each counted each time it is reached (what is shared counts as often as it is met; a slice's spare places count too). A statement '..UptoSaid' is the law's where the arguments, and the package variables that the reading takes, are together of bulk at most 1048576: NARROWER than '..Said'. Prove '..Said' where nothing that the law and all that it calls make is longer than what came in: it says more and counts as full. Else prove '..UptoSaid'. A law counts once. -/
mutual
def uptoBulk {H : Type} : DataW H → Nat
  | .lit (.string bytes) => bytes.length + 1
  | .lit _ => 1
  | .nil => 1
  | .ptr d => uptoBulk d + 1
  | .slice elems spare => uptoBulkAll elems + uptoBulkAll spare + 1
  | .agg parts => uptoBulkAll parts + 1
  | .iface _ d => uptoBulk d + 1
  | .map entries => uptoBulkEntries entries + 1
  | .held _ => 1
def uptoBulkAll {H : Type} : List (DataW H) → Nat
  | [] => 0
  | d :: r => uptoBulk d + uptoBulkAll r
def uptoBulkEntries {H : Type} : List (Lit × DataW H) → Nat
  | [] => 0
  | x :: r => uptoBulkEntry x + uptoBulkEntries r
def uptoBulkEntry {H : Type} : Lit × DataW H → Nat
  | (.string bytes, d) => bytes.length + uptoBulk d + 1
  | (_, d) => uptoBulk d + 1
 end
def uptoSmall : (H : Type) → List (DataW H) → Bool := fun _ ds => decide (uptoBulkAll ds ≤ 1048576)
def OpenSpec.upto (s : _root_.Go.ChangeSpec) : _root_.Go.OpenSpec := { _root_.Go.OpenSpec.ofChange s with cond := some uptoSmall }

/-- 'starlinglaw10.DrawNumbers', WHERE WHAT IT READS IS OF BULK AT MOST 1048576: true; the input reads as it did. -/
def drawNumbersUptoRow : OpenClaim := { program := "ythhmjaaoidhciaa", sum := "c2c5b4efb5e353f02540d06e0ce0b1935050f06e70c1af0712cdcdc4aacd6e09", func := "starling/starlinglaw10.DrawNumbers", spec := "drawNumbers", apart := false, narrowed := true }
def DrawNumbersUptoSaid : Prop := drawNumbersUptoRow.holds Try.pinned (OpenSpec.upto drawNumbersSpec)

/-- 'starlinglaw10.DrawApart', WHERE WHAT IT READS IS OF BULK AT MOST 1048576: true; the input reads as it did. -/
def drawApartUptoRow : OpenClaim := { program := "ythhmjaaoidhciaa", sum := "c2c5b4efb5e353f02540d06e0ce0b1935050f06e70c1af0712cdcdc4aacd6e09", func := "starling/starlinglaw10.DrawApart", spec := "drawApart", apart := false, narrowed := true }
def DrawApartUptoSaid : Prop := drawApartUptoRow.holds Try.pinned (OpenSpec.upto drawApartSpec)

/-- 'starlinglaw10.DrawFalls', WHERE WHAT IT READS IS OF BULK AT MOST 1048576: true; the input reads as it did. -/
def drawFallsUptoRow : OpenClaim := { program := "ythhmjaaoidhciaa", sum := "c2c5b4efb5e353f02540d06e0ce0b1935050f06e70c1af0712cdcdc4aacd6e09", func := "starling/starlinglaw10.DrawFalls", spec := "drawFalls", apart := false, narrowed := true }
def DrawFallsUptoSaid : Prop := drawFallsUptoRow.holds Try.pinned (OpenSpec.upto drawFallsSpec)

/-- 'starlinglaw10.DrawChances', WHERE WHAT IT READS IS OF BULK AT MOST 1048576: true; the input reads as it did. -/
def drawChancesUptoRow : OpenClaim := { program := "ythhmjaaoidhciaa", sum := "c2c5b4efb5e353f02540d06e0ce0b1935050f06e70c1af0712cdcdc4aacd6e09", func := "starling/starlinglaw10.DrawChances", spec := "drawChances", apart := false, narrowed := true }
def DrawChancesUptoSaid : Prop := drawChancesUptoRow.holds Try.pinned (OpenSpec.upto drawChancesSpec)

/-- 'starlinglaw10.DrawSame', WHERE WHAT IT READS IS OF BULK AT MOST 1048576: true; the input reads as it did. -/
def drawSameUptoRow : OpenClaim := { program := "ythhmjaaoidhciaa", sum := "c2c5b4efb5e353f02540d06e0ce0b1935050f06e70c1af0712cdcdc4aacd6e09", func := "starling/starlinglaw10.DrawSame", spec := "drawSame", apart := false, narrowed := true }
def DrawSameUptoSaid : Prop := drawSameUptoRow.holds Try.pinned (OpenSpec.upto drawSameSpec)

/-- 'starlinglaw10.DrawShuffles', WHERE WHAT IT READS IS OF BULK AT MOST 1048576: true; the input reads as it did. -/
def drawShufflesUptoRow : OpenClaim := { program := "ythhmjaaoidhciaa", sum := "c2c5b4efb5e353f02540d06e0ce0b1935050f06e70c1af0712cdcdc4aacd6e09", func := "starling/starlinglaw10.DrawShuffles", spec := "drawShuffles", apart := false, narrowed := true }
def DrawShufflesUptoSaid : Prop := drawShufflesUptoRow.holds Try.pinned (OpenSpec.upto drawShufflesSpec)

/-- 'starlinglaw10.DrawCounts', WHERE WHAT IT READS IS OF BULK AT MOST 1048576: true; the input reads as it did. -/
def drawCountsUptoRow : OpenClaim := { program := "ythhmjaaoidhciaa", sum := "c2c5b4efb5e353f02540d06e0ce0b1935050f06e70c1af0712cdcdc4aacd6e09", func := "starling/starlinglaw10.DrawCounts", spec := "drawCounts", apart := false, narrowed := true }
def DrawCountsUptoSaid : Prop := drawCountsUptoRow.holds Try.pinned (OpenSpec.upto drawCountsSpec)

end Rows
end Go.Proofs.Ythhmjaaoidhciaa
