/-
  No cell of these rows narrows 'for every input' (looked for: loops, veiled, ifaces, maps, wideKeys, modest, calm, conditions, laid).
  DERIVED. THE GIVEN ROWS OF THIS SEAT. 7 by the template 'for every input the law returns true; each argument reads behind the call as it read before'; 0 by the template 'total and deterministic' (their statements: YtagiodagbfahpaaTotals.lean).
  GIVEN WITH THE SEED: the statements are not yours to turn. If you find one false, say at which input.
  Laid BY PROGRAM, IN A SANDBOX (cutbox-rows.mjs): the forced cells as the released guide's own fill.sh prints them over the translation 60ac93d416970e85… (all of the seat's roots in one cut). By AI agents, Wed Nov 11 2026. No macro, syntax, notation, axiom, sorry.
-/
import Derived.Test.YtagiodagbfahpaaChecked
import GoSem.Claim
import GoSem.ClaimJoined
import GoSem.ClaimMapViews
import Derived.JoinedTies
import Derived.KernelRfl
namespace Go.Proofs.Ytagiodagbfahpaa
/- THE CELL 'sum', in the pinned program and in every row, IS THE sha256 OF THE DUMP (.gsa) THAT YtagiodagbfahpaaProg.lean LOADS. Nothing in Lean hashes anything: it is a label: what it is worth is what the hold of that sum in a sandbox is worth. -/
noncomputable def Try.pinned : Pinned := { name := "ytagiodagbfahpaa", sum := "60ac93d416970e85356ea39eb856bbaf53e6a149e833b09c8e4a2fee85da7d8e", checked := Try.checked }
namespace Rows
def none {H : Type} : Left H := { results := [], args := [] }

/-- 'starlinglaw12.MemberNewest': WHATEVER THE INPUT: true; the input reads as it did. -/
def memberNewestSpec : ChangeSpec := { name := "memberNewest", fn := fun _ => fun
  | [d] => { results := [.lit (.bool true)], args := [d] }
  | _ => none }
def memberNewestRow : OpenClaim := { program := "ytagiodagbfahpaa", sum := "60ac93d416970e85356ea39eb856bbaf53e6a149e833b09c8e4a2fee85da7d8e", func := "starling/starlinglaw12.MemberNewest", spec := "memberNewest", unfollowed := true, recurses := true, apart := false }
def MemberNewestSaid : Prop := memberNewestRow.holds Try.pinned (OpenSpec.ofChange memberNewestSpec)

/-- ITS FALSE NEIGHBOUR: 'it returns false'. Refute it at one input. -/
def memberNewestWrong : ChangeSpec := { name := "memberNewest", fn := fun _ => fun
  | [d] => { results := [.lit (.bool false)], args := [d] }
  | _ => none }
def MemberNewestWrongFalsely : Prop := memberNewestRow.holds Try.pinned (OpenSpec.ofChange memberNewestWrong)

/-- 'starlinglaw12.MemberRises': WHATEVER THE INPUT: true; the input reads as it did. -/
def memberRisesSpec : ChangeSpec := { name := "memberRises", fn := fun _ => fun
  | [d1, d2] => { results := [.lit (.bool true)], args := [d1, d2] }
  | _ => none }
def memberRisesRow : OpenClaim := { program := "ytagiodagbfahpaa", sum := "60ac93d416970e85356ea39eb856bbaf53e6a149e833b09c8e4a2fee85da7d8e", func := "starling/starlinglaw12.MemberRises", spec := "memberRises", unfollowed := true, recurses := true, apart := false }
def MemberRisesSaid : Prop := memberRisesRow.holds Try.pinned (OpenSpec.ofChange memberRisesSpec)

/-- ITS FALSE NEIGHBOUR: 'it returns false'. Refute it at one input. -/
def memberRisesWrong : ChangeSpec := { name := "memberRises", fn := fun _ => fun
  | [d1, d2] => { results := [.lit (.bool false)], args := [d1, d2] }
  | _ => none }
def MemberRisesWrongFalsely : Prop := memberRisesRow.holds Try.pinned (OpenSpec.ofChange memberRisesWrong)

/-- 'starlinglaw12.MemberDies': WHATEVER THE INPUT: true; the input reads as it did. -/
def memberDiesSpec : ChangeSpec := { name := "memberDies", fn := fun _ => fun
  | [d1, d2, d3] => { results := [.lit (.bool true)], args := [d1, d2, d3] }
  | _ => none }
def memberDiesRow : OpenClaim := { program := "ytagiodagbfahpaa", sum := "60ac93d416970e85356ea39eb856bbaf53e6a149e833b09c8e4a2fee85da7d8e", func := "starling/starlinglaw12.MemberDies", spec := "memberDies", unfollowed := true, recurses := true, apart := false }
def MemberDiesSaid : Prop := memberDiesRow.holds Try.pinned (OpenSpec.ofChange memberDiesSpec)

/-- ITS FALSE NEIGHBOUR: 'it returns false'. Refute it at one input. -/
def memberDiesWrong : ChangeSpec := { name := "memberDies", fn := fun _ => fun
  | [d1, d2, d3] => { results := [.lit (.bool false)], args := [d1, d2, d3] }
  | _ => none }
def MemberDiesWrongFalsely : Prop := memberDiesRow.holds Try.pinned (OpenSpec.ofChange memberDiesWrong)

/-- 'starlinglaw12.MemberGossips': WHATEVER THE INPUT: true; the input reads as it did. -/
def memberGossipsSpec : ChangeSpec := { name := "memberGossips", fn := fun _ => fun
  | [d1, d2] => { results := [.lit (.bool true)], args := [d1, d2] }
  | _ => none }
def memberGossipsRow : OpenClaim := { program := "ytagiodagbfahpaa", sum := "60ac93d416970e85356ea39eb856bbaf53e6a149e833b09c8e4a2fee85da7d8e", func := "starling/starlinglaw12.MemberGossips", spec := "memberGossips", unfollowed := true, recurses := true, apart := false }
def MemberGossipsSaid : Prop := memberGossipsRow.holds Try.pinned (OpenSpec.ofChange memberGossipsSpec)

/-- ITS FALSE NEIGHBOUR: 'it returns false'. Refute it at one input. -/
def memberGossipsWrong : ChangeSpec := { name := "memberGossips", fn := fun _ => fun
  | [d1, d2] => { results := [.lit (.bool false)], args := [d1, d2] }
  | _ => none }
def MemberGossipsWrongFalsely : Prop := memberGossipsRow.holds Try.pinned (OpenSpec.ofChange memberGossipsWrong)

/-- 'starlinglaw12.MemberScripts': WHATEVER THE INPUT: true; the input reads as it did. -/
def memberScriptsSpec : ChangeSpec := { name := "memberScripts", fn := fun _ => fun
  | [d1, d2, d3] => { results := [.lit (.bool true)], args := [d1, d2, d3] }
  | _ => none }
def memberScriptsRow : OpenClaim := { program := "ytagiodagbfahpaa", sum := "60ac93d416970e85356ea39eb856bbaf53e6a149e833b09c8e4a2fee85da7d8e", func := "starling/starlinglaw12.MemberScripts", spec := "memberScripts", unfollowed := true, recurses := true, apart := false }
def MemberScriptsSaid : Prop := memberScriptsRow.holds Try.pinned (OpenSpec.ofChange memberScriptsSpec)

/-- ITS FALSE NEIGHBOUR: 'it returns false'. Refute it at one input. -/
def memberScriptsWrong : ChangeSpec := { name := "memberScripts", fn := fun _ => fun
  | [d1, d2, d3] => { results := [.lit (.bool false)], args := [d1, d2, d3] }
  | _ => none }
def MemberScriptsWrongFalsely : Prop := memberScriptsRow.holds Try.pinned (OpenSpec.ofChange memberScriptsWrong)

/-- 'starlinglaw12.MemberSelf': WHATEVER THE INPUT: true; the input reads as it did. -/
def memberSelfSpec : ChangeSpec := { name := "memberSelf", fn := fun _ => fun
  | [d1, d2] => { results := [.lit (.bool true)], args := [d1, d2] }
  | _ => none }
def memberSelfRow : OpenClaim := { program := "ytagiodagbfahpaa", sum := "60ac93d416970e85356ea39eb856bbaf53e6a149e833b09c8e4a2fee85da7d8e", func := "starling/starlinglaw12.MemberSelf", spec := "memberSelf", unfollowed := true, recurses := true, apart := false }
def MemberSelfSaid : Prop := memberSelfRow.holds Try.pinned (OpenSpec.ofChange memberSelfSpec)

/-- ITS FALSE NEIGHBOUR: 'it returns false'. Refute it at one input. -/
def memberSelfWrong : ChangeSpec := { name := "memberSelf", fn := fun _ => fun
  | [d1, d2] => { results := [.lit (.bool false)], args := [d1, d2] }
  | _ => none }
def MemberSelfWrongFalsely : Prop := memberSelfRow.holds Try.pinned (OpenSpec.ofChange memberSelfWrong)

/-- 'starlinglaw12.MemberBounds': WHATEVER THE INPUT: true; the input reads as it did. -/
def memberBoundsSpec : ChangeSpec := { name := "memberBounds", fn := fun _ => fun
  | [d1, d2, d3] => { results := [.lit (.bool true)], args := [d1, d2, d3] }
  | _ => none }
def memberBoundsRow : OpenClaim := { program := "ytagiodagbfahpaa", sum := "60ac93d416970e85356ea39eb856bbaf53e6a149e833b09c8e4a2fee85da7d8e", func := "starling/starlinglaw12.MemberBounds", spec := "memberBounds", unfollowed := true, recurses := true, apart := false }
def MemberBoundsSaid : Prop := memberBoundsRow.holds Try.pinned (OpenSpec.ofChange memberBoundsSpec)

/-- ITS FALSE NEIGHBOUR: 'it returns false'. Refute it at one input. -/
def memberBoundsWrong : ChangeSpec := { name := "memberBounds", fn := fun _ => fun
  | [d1, d2, d3] => { results := [.lit (.bool false)], args := [d1, d2, d3] }
  | _ => none }
def MemberBoundsWrongFalsely : Prop := memberBoundsRow.holds Try.pinned (OpenSpec.ofChange memberBoundsWrong)

/- THE SECOND FORM. 'bulk': how many values and letters a reading holds, each counted each time it is reached (what is shared counts as often as it is met; a slice's spare places count too). A statement '..UptoSaid' is the law's where the arguments, and the package variables that the reading takes, are together of bulk at most 1048576: NARROWER than '..Said'. Prove '..Said' where nothing that the law and all that it calls make is longer than what came in: it says more and counts as full. Else prove '..UptoSaid'. A law counts once. -/
mutual
def uptoBulk {H : Type} : DataW H → Nat
  | .lit (.string bytes) => bytes.length + 1
  | .lit _ => 1
  | .nil => 1
  | .ptr d => uptoBulk d + 1
  | .slice elems spare => uptoBulkAll elems + uptoBulkAll spare + 1
  | .agg parts => uptoBulkAll parts + 1
  | .iface _ d => uptoBulk d + 1
  | .map entries => uptoBulkEntries entries + 1
  | .held _ => 1
def uptoBulkAll {H : Type} : List (DataW H) → Nat
  | [] => 0
  | d :: r => uptoBulk d + uptoBulkAll r
def uptoBulkEntries {H : Type} : List (Lit × DataW H) → Nat
  | [] => 0
  | x :: r => uptoBulkEntry x + uptoBulkEntries r
def uptoBulkEntry {H : Type} : Lit × DataW H → Nat
  | (.string bytes, d) => bytes.length + uptoBulk d + 1
  | (_, d) => uptoBulk d + 1
 end
def uptoSmall : (H : Type) → List (DataW H) → Bool := fun _ ds => decide (uptoBulkAll ds ≤ 1048576)
def OpenSpec.upto (s : _root_.Go.ChangeSpec) : _root_.Go.OpenSpec := { _root_.Go.OpenSpec.ofChange s with cond := some uptoSmall }

/-- 'starlinglaw12.MemberNewest', WHERE WHAT IT READS IS OF BULK AT MOST 1048576: true; the input reads as it did. -/
def memberNewestUptoRow : OpenClaim := { program := "ytagiodagbfahpaa", sum := "60ac93d416970e85356ea39eb856bbaf53e6a149e833b09c8e4a2fee85da7d8e", func := "starling/starlinglaw12.MemberNewest", spec := "memberNewest", unfollowed := true, recurses := true, apart := false, narrowed := true }
def MemberNewestUptoSaid : Prop := memberNewestUptoRow.holds Try.pinned (OpenSpec.upto memberNewestSpec)

/-- 'starlinglaw12.MemberRises', WHERE WHAT IT READS IS OF BULK AT MOST 1048576: true; the input reads as it did. -/
def memberRisesUptoRow : OpenClaim := { program := "ytagiodagbfahpaa", sum := "60ac93d416970e85356ea39eb856bbaf53e6a149e833b09c8e4a2fee85da7d8e", func := "starling/starlinglaw12.MemberRises", spec := "memberRises", unfollowed := true, recurses := true, apart := false, narrowed := true }
def MemberRisesUptoSaid : Prop := memberRisesUptoRow.holds Try.pinned (OpenSpec.upto memberRisesSpec)

/-- 'starlinglaw12.MemberDies', WHERE WHAT IT READS IS OF BULK AT MOST 1048576: true; the input reads as it did. -/
def memberDiesUptoRow : OpenClaim := { program := "ytagiodagbfahpaa", sum := "60ac93d416970e85356ea39eb856bbaf53e6a149e833b09c8e4a2fee85da7d8e", func := "starling/starlinglaw12.MemberDies", spec := "memberDies", unfollowed := true, recurses := true, apart := false, narrowed := true }
def MemberDiesUptoSaid : Prop := memberDiesUptoRow.holds Try.pinned (OpenSpec.upto memberDiesSpec)

/-- 'starlinglaw12.MemberGossips', WHERE WHAT IT READS IS OF BULK AT MOST 1048576: true; the input reads as it did. -/
def memberGossipsUptoRow : OpenClaim := { program := "ytagiodagbfahpaa", sum := "60ac93d416970e85356ea39eb856bbaf53e6a149e833b09c8e4a2fee85da7d8e", func := "starling/starlinglaw12.MemberGossips", spec := "memberGossips", unfollowed := true, recurses := true, apart := false, narrowed := true }
def MemberGossipsUptoSaid : Prop := memberGossipsUptoRow.holds Try.pinned (OpenSpec.upto memberGossipsSpec)

/-- 'starlinglaw12.MemberScripts', WHERE WHAT IT READS IS OF BULK AT MOST 1048576: true; the input reads as it did. -/
def memberScriptsUptoRow : OpenClaim := { program := "ytagiodagbfahpaa", sum := "60ac93d416970e85356ea39eb856bbaf53e6a149e833b09c8e4a2fee85da7d8e", func := "starling/starlinglaw12.MemberScripts", spec := "memberScripts", unfollowed := true, recurses := true, apart := false, narrowed := true }
def MemberScriptsUptoSaid : Prop := memberScriptsUptoRow.holds Try.pinned (OpenSpec.upto memberScriptsSpec)

/-- 'starlinglaw12.MemberSelf', WHERE WHAT IT READS IS OF BULK AT MOST 1048576: true; the input reads as it did. -/
def memberSelfUptoRow : OpenClaim := { program := "ytagiodagbfahpaa", sum := "60ac93d416970e85356ea39eb856bbaf53e6a149e833b09c8e4a2fee85da7d8e", func := "starling/starlinglaw12.MemberSelf", spec := "memberSelf", unfollowed := true, recurses := true, apart := false, narrowed := true }
def MemberSelfUptoSaid : Prop := memberSelfUptoRow.holds Try.pinned (OpenSpec.upto memberSelfSpec)

/-- 'starlinglaw12.MemberBounds', WHERE WHAT IT READS IS OF BULK AT MOST 1048576: true; the input reads as it did. -/
def memberBoundsUptoRow : OpenClaim := { program := "ytagiodagbfahpaa", sum := "60ac93d416970e85356ea39eb856bbaf53e6a149e833b09c8e4a2fee85da7d8e", func := "starling/starlinglaw12.MemberBounds", spec := "memberBounds", unfollowed := true, recurses := true, apart := false, narrowed := true }
def MemberBoundsUptoSaid : Prop := memberBoundsUptoRow.holds Try.pinned (OpenSpec.upto memberBoundsSpec)

end Rows
end Go.Proofs.Ytagiodagbfahpaa
