/-
  DERIVED. GIVEN WITH THE SEED: THE CARDS: each row of YtfopglaagnbacaaDoorRows.lean that lists a variable, with what it lists TIED to the program's text (the seventh form; the later family's looks); each row that meets fmt, with fmt's text TOLD by the authors' own Lean function (tested against real Go, not proved from fmt's source: count such statements apart). THE CARD IS WHAT COUNTS. Prove the row's statement (the work); the ties are given (YtfopglaagnbacaaDoorTie.lean); close each card by the builder's one call (the guide's Derived/Test/ToyasCard.lean, 'card_holds'). Laid BY PROGRAM, IN A SANDBOX (cutbox-door.mjs). By AI agents, Wed Nov 11 2026. No macro, syntax, notation, axiom, sorry.
-/
import Derived.Test.YtfopglaagnbacaaDoorRows
import GoSem.ClaimSeven
namespace Go.Proofs.YtfopglaagnbacaaDoor
namespace Rows

/-- THE TIED CARD OF 'starlingtop.TopSwarm'. -/
def topSwarmCard : Claim7 := { stood := { row := topSwarmRow, standIns := [], harness := (true, "fcd757f85b51c07131b4ba817b7bfdb7b649194fdf368b9647ba383b7e61fcd0"), looks := false }, kinds := [], alts := [], laidByText := true, laidKinds := [.data], laidTests := true, laidLooks := .later }
def TopSwarmCardSaid : Prop := Claim7.holds Tryd.pinned (.plain (OpenSpec.ofChange topSwarmSpec)) topSwarmCard

/-- THE SECOND FORM's CARD OF 'starlingtop.TopSwarm'. -/
def topSwarmUptoCard : Claim7 := { stood := { row := topSwarmUptoRow, standIns := [], harness := (true, "fcd757f85b51c07131b4ba817b7bfdb7b649194fdf368b9647ba383b7e61fcd0"), looks := false }, kinds := [], alts := [], laidByText := true, laidKinds := [.data], laidTests := true, laidLooks := .later }
def TopSwarmUptoCardSaid : Prop := Claim7.holds Tryd.pinned (.plain (OpenSpec.upto topSwarmSpec)) topSwarmUptoCard
end Rows
end Go.Proofs.YtfopglaagnbacaaDoor
