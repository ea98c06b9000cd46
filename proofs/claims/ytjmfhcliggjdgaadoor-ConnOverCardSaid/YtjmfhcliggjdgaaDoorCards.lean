/-
  DERIVED. GIVEN WITH THE SEED: THE CARDS: each row of YtjmfhcliggjdgaaDoorRows.lean that lists a variable, with what it lists TIED to the program's text (the seventh form; the later family's looks); each row that meets fmt, with fmt's text TOLD by the authors' own Lean function (tested against real Go, not proved from fmt's source: count such statements apart). THE CARD IS WHAT COUNTS. Prove the row's statement (the work); the ties are given (YtjmfhcliggjdgaaDoorTie.lean); close each card by the builder's one call (the guide's Derived/Test/ToyasCard.lean, 'card_holds'). Laid BY PROGRAM, IN A SANDBOX (cutbox-door.mjs). By AI agents, Wed Nov 11 2026. No macro, syntax, notation, axiom, sorry.
-/
import Derived.Test.YtjmfhcliggjdgaaDoorRows
import GoSem.ClaimSeven
namespace Go.Proofs.YtjmfhcliggjdgaaDoor
namespace Rows

/-- THE TIED CARD OF 'starlinglaw18.ConnOver'. -/
def connOverCard : Claim7 := { stood := { row := connOverRow, standIns := [], harness := (true, "82df731815017b45e506eeca90d1a1a6c9f476096b42dd73b2f64cd9c03a8760"), looks := false }, kinds := [], alts := [], laidByText := true, laidKinds := [.data], laidTests := true, laidLooks := .later }
def ConnOverCardSaid : Prop := Claim7.holds Tryd.pinned (.plain (OpenSpec.ofChange connOverSpec)) connOverCard

/-- THE SECOND FORM's CARD OF 'starlinglaw18.ConnOver'. -/
def connOverUptoCard : Claim7 := { stood := { row := connOverUptoRow, standIns := [], harness := (true, "82df731815017b45e506eeca90d1a1a6c9f476096b42dd73b2f64cd9c03a8760"), looks := false }, kinds := [], alts := [], laidByText := true, laidKinds := [.data], laidTests := true, laidLooks := .later }
def ConnOverUptoCardSaid : Prop := Claim7.holds Tryd.pinned (.plain (OpenSpec.upto connOverSpec)) connOverUptoCard
end Rows
end Go.Proofs.YtjmfhcliggjdgaaDoor
