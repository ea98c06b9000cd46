/-
  No cell of these rows narrows 'for every input' (looked for: loops, veiled, ifaces, maps, wideKeys, modest, calm, conditions, laid).
  DERIVED. THE GIVEN ROWS OF THIS SEAT. 5 by the template 'for every input the law returns true; each argument reads behind the call as it read before'; 0 by the template 'total and deterministic' (their statements: YtiabjaaamgjlnaaTotals.lean).
  GIVEN WITH THE SEED: the statements are not yours to turn. If you find one false, say at which input.
  Laid BY PROGRAM, IN A SANDBOX (cutbox-rows.mjs): the forced cells as the released guide's own fill.sh prints them over the translation 04435a2d09502117… (all of the seat's roots in one cut). By AI agents, Wed Nov 11 2026. No macro, syntax, notation, axiom, sorry.
-/
import Derived.Test.YtiabjaaamgjlnaaChecked
import GoSem.Claim
import GoSem.ClaimJoined
import GoSem.ClaimMapViews
import Derived.JoinedTies
import Derived.KernelRfl
namespace Go.Proofs.Ytiabjaaamgjlnaa
/- THE CELL 'sum', in the pinned program and in every row, IS THE sha256 OF THE DUMP (.gsa) THAT YtiabjaaamgjlnaaProg.lean LOADS. Nothing in Lean hashes anything: it is a label: what it is worth is what the hold of that sum in a sandbox is worth. -/
noncomputable def Try.pinned : Pinned := { name := "ytiabjaaamgjlnaa", sum := "04435a2d09502117aef2ab47b7b1b33f603d349815a587d8bb3cacf4ef8df72e", checked := Try.checked }
namespace Rows
def none {H : Type} : Left H := { results := [], args := [] }

/-- 'starlinglaw15.StrikesBound': WHATEVER THE INPUT: true; the input reads as it did. -/
def strikesBoundSpec : ChangeSpec := { name := "strikesBound", fn := fun _ => fun
  | [d1, d2, d3] => { results := [.lit (.bool true)], args := [d1, d2, d3] }
  | _ => none }
def strikesBoundRow : OpenClaim := { program := "ytiabjaaamgjlnaa", sum := "04435a2d09502117aef2ab47b7b1b33f603d349815a587d8bb3cacf4ef8df72e", func := "starling/starlinglaw15.StrikesBound", spec := "strikesBound", unfollowed := true, recurses := true, apart := false }
def StrikesBoundSaid : Prop := strikesBoundRow.holds Try.pinned (OpenSpec.ofChange strikesBoundSpec)

/-- ITS FALSE NEIGHBOUR: 'it returns false'. Refute it at one input. -/
def strikesBoundWrong : ChangeSpec := { name := "strikesBound", fn := fun _ => fun
  | [d1, d2, d3] => { results := [.lit (.bool false)], args := [d1, d2, d3] }
  | _ => none }
def StrikesBoundWrongFalsely : Prop := strikesBoundRow.holds Try.pinned (OpenSpec.ofChange strikesBoundWrong)

/-- 'starlinglaw15.StrikesGood': WHATEVER THE INPUT: true; the input reads as it did. -/
def strikesGoodSpec : ChangeSpec := { name := "strikesGood", fn := fun _ => fun
  | [d1, d2, d3] => { results := [.lit (.bool true)], args := [d1, d2, d3] }
  | _ => none }
def strikesGoodRow : OpenClaim := { program := "ytiabjaaamgjlnaa", sum := "04435a2d09502117aef2ab47b7b1b33f603d349815a587d8bb3cacf4ef8df72e", func := "starling/starlinglaw15.StrikesGood", spec := "strikesGood", unfollowed := true, recurses := true, apart := false }
def StrikesGoodSaid : Prop := strikesGoodRow.holds Try.pinned (OpenSpec.ofChange strikesGoodSpec)

/-- ITS FALSE NEIGHBOUR: 'it returns false'. Refute it at one input. -/
def strikesGoodWrong : ChangeSpec := { name := "strikesGood", fn := fun _ => fun
  | [d1, d2, d3] => { results := [.lit (.bool false)], args := [d1, d2, d3] }
  | _ => none }
def StrikesGoodWrongFalsely : Prop := strikesGoodRow.holds Try.pinned (OpenSpec.ofChange strikesGoodWrong)

/-- 'starlinglaw15.StrikesOver': WHATEVER THE INPUT: true; the input reads as it did. -/
def strikesOverSpec : ChangeSpec := { name := "strikesOver", fn := fun _ => fun
  | [d1, d2] => { results := [.lit (.bool true)], args := [d1, d2] }
  | _ => none }
def strikesOverRow : OpenClaim := { program := "ytiabjaaamgjlnaa", sum := "04435a2d09502117aef2ab47b7b1b33f603d349815a587d8bb3cacf4ef8df72e", func := "starling/starlinglaw15.StrikesOver", spec := "strikesOver", unfollowed := true, recurses := true, apart := false }
def StrikesOverSaid : Prop := strikesOverRow.holds Try.pinned (OpenSpec.ofChange strikesOverSpec)

/-- ITS FALSE NEIGHBOUR: 'it returns false'. Refute it at one input. -/
def strikesOverWrong : ChangeSpec := { name := "strikesOver", fn := fun _ => fun
  | [d1, d2] => { results := [.lit (.bool false)], args := [d1, d2] }
  | _ => none }
def StrikesOverWrongFalsely : Prop := strikesOverRow.holds Try.pinned (OpenSpec.ofChange strikesOverWrong)

/-- 'starlinglaw15.StrikesKnown': WHATEVER THE INPUT: true; the input reads as it did. -/
def strikesKnownSpec : ChangeSpec := { name := "strikesKnown", fn := fun _ => fun
  | [d1, d2] => { results := [.lit (.bool true)], args := [d1, d2] }
  | _ => none }
def strikesKnownRow : OpenClaim := { program := "ytiabjaaamgjlnaa", sum := "04435a2d09502117aef2ab47b7b1b33f603d349815a587d8bb3cacf4ef8df72e", func := "starling/starlinglaw15.StrikesKnown", spec := "strikesKnown", unfollowed := true, recurses := true, apart := false }
def StrikesKnownSaid : Prop := strikesKnownRow.holds Try.pinned (OpenSpec.ofChange strikesKnownSpec)

/-- ITS FALSE NEIGHBOUR: 'it returns false'. Refute it at one input. -/
def strikesKnownWrong : ChangeSpec := { name := "strikesKnown", fn := fun _ => fun
  | [d1, d2] => { results := [.lit (.bool false)], args := [d1, d2] }
  | _ => none }
def StrikesKnownWrongFalsely : Prop := strikesKnownRow.holds Try.pinned (OpenSpec.ofChange strikesKnownWrong)

/-- 'starlinglaw15.StrikesScripts': WHATEVER THE INPUT: true; the input reads as it did. -/
def strikesScriptsSpec : ChangeSpec := { name := "strikesScripts", fn := fun _ => fun
  | [d1, d2] => { results := [.lit (.bool true)], args := [d1, d2] }
  | _ => none }
def strikesScriptsRow : OpenClaim := { program := "ytiabjaaamgjlnaa", sum := "04435a2d09502117aef2ab47b7b1b33f603d349815a587d8bb3cacf4ef8df72e", func := "starling/starlinglaw15.StrikesScripts", spec := "strikesScripts", unfollowed := true, recurses := true, apart := false }
def StrikesScriptsSaid : Prop := strikesScriptsRow.holds Try.pinned (OpenSpec.ofChange strikesScriptsSpec)

/-- ITS FALSE NEIGHBOUR: 'it returns false'. Refute it at one input. -/
def strikesScriptsWrong : ChangeSpec := { name := "strikesScripts", fn := fun _ => fun
  | [d1, d2] => { results := [.lit (.bool false)], args := [d1, d2] }
  | _ => none }
def StrikesScriptsWrongFalsely : Prop := strikesScriptsRow.holds Try.pinned (OpenSpec.ofChange strikesScriptsWrong)

/- THE SECOND FORM. 'bulk': how many values and letters a reading holds, each counted each time it is reached (what is shared counts as often as it is met; a slice's spare places count too). A statement '..UptoSaid' is the law's where the arguments, and the package variables that the reading takes, are together of bulk at most 1048576: NARROWER than '..Said'. Prove '..Said' where nothing that the law and all that it calls make is longer than what came in: it says more and counts as full. Else prove '..UptoSaid'. A law counts once. -/
mutual
def uptoBulk {H : Type} : DataW H → Nat
  | .lit (.string bytes) => bytes.length + 1
  | .lit _ => 1
  | .nil => 1
  | .ptr d => uptoBulk d + 1
  | .slice elems spare => uptoBulkAll elems + uptoBulkAll spare + 1
  | .agg parts => uptoBulkAll parts + 1
  | .iface _ d => uptoBulk d + 1
  | .map entries => uptoBulkEntries entries + 1
  | .held _ => 1
def uptoBulkAll {H : Type} : List (DataW H) → Nat
  | [] => 0
  | d :: r => uptoBulk d + uptoBulkAll r
def uptoBulkEntries {H : Type} : List (Lit × DataW H) → Nat
  | [] => 0
  | x :: r => uptoBulkEntry x + uptoBulkEntries r
def uptoBulkEntry {H : Type} : Lit × DataW H → Nat
  | (.string bytes, d) => bytes.length + uptoBulk d + 1
  | (_, d) => uptoBulk d + 1
 end
def uptoSmall : (H : Type) → List (DataW H) → Bool := fun _ ds => decide (uptoBulkAll ds ≤ 1048576)
def OpenSpec.upto (s : _root_.Go.ChangeSpec) : _root_.Go.OpenSpec := { _root_.Go.OpenSpec.ofChange s with cond := some uptoSmall }

/-- 'starlinglaw15.StrikesBound', WHERE WHAT IT READS IS OF BULK AT MOST 1048576: true; the input reads as it did. -/
def strikesBoundUptoRow : OpenClaim := { program := "ytiabjaaamgjlnaa", sum := "04435a2d09502117aef2ab47b7b1b33f603d349815a587d8bb3cacf4ef8df72e", func := "starling/starlinglaw15.StrikesBound", spec := "strikesBound", unfollowed := true, recurses := true, apart := false, narrowed := true }
def StrikesBoundUptoSaid : Prop := strikesBoundUptoRow.holds Try.pinned (OpenSpec.upto strikesBoundSpec)

/-- 'starlinglaw15.StrikesGood', WHERE WHAT IT READS IS OF BULK AT MOST 1048576: true; the input reads as it did. -/
def strikesGoodUptoRow : OpenClaim := { program := "ytiabjaaamgjlnaa", sum := "04435a2d09502117aef2ab47b7b1b33f603d349815a587d8bb3cacf4ef8df72e", func := "starling/starlinglaw15.StrikesGood", spec := "strikesGood", unfollowed := true, recurses := true, apart := false, narrowed := true }
def StrikesGoodUptoSaid : Prop := strikesGoodUptoRow.holds Try.pinned (OpenSpec.upto strikesGoodSpec)

/-- 'starlinglaw15.StrikesOver', WHERE WHAT IT READS IS OF BULK AT MOST 1048576: true; the input reads as it did. -/
def strikesOverUptoRow : OpenClaim := { program := "ytiabjaaamgjlnaa", sum := "04435a2d09502117aef2ab47b7b1b33f603d349815a587d8bb3cacf4ef8df72e", func := "starling/starlinglaw15.StrikesOver", spec := "strikesOver", unfollowed := true, recurses := true, apart := false, narrowed := true }
def StrikesOverUptoSaid : Prop := strikesOverUptoRow.holds Try.pinned (OpenSpec.upto strikesOverSpec)

/-- 'starlinglaw15.StrikesKnown', WHERE WHAT IT READS IS OF BULK AT MOST 1048576: true; the input reads as it did. -/
def strikesKnownUptoRow : OpenClaim := { program := "ytiabjaaamgjlnaa", sum := "04435a2d09502117aef2ab47b7b1b33f603d349815a587d8bb3cacf4ef8df72e", func := "starling/starlinglaw15.StrikesKnown", spec := "strikesKnown", unfollowed := true, recurses := true, apart := false, narrowed := true }
def StrikesKnownUptoSaid : Prop := strikesKnownUptoRow.holds Try.pinned (OpenSpec.upto strikesKnownSpec)

/-- 'starlinglaw15.StrikesScripts', WHERE WHAT IT READS IS OF BULK AT MOST 1048576: true; the input reads as it did. -/
def strikesScriptsUptoRow : OpenClaim := { program := "ytiabjaaamgjlnaa", sum := "04435a2d09502117aef2ab47b7b1b33f603d349815a587d8bb3cacf4ef8df72e", func := "starling/starlinglaw15.StrikesScripts", spec := "strikesScripts", unfollowed := true, recurses := true, apart := false, narrowed := true }
def StrikesScriptsUptoSaid : Prop := strikesScriptsUptoRow.holds Try.pinned (OpenSpec.upto strikesScriptsSpec)

end Rows
end Go.Proofs.Ytiabjaaamgjlnaa
