/-
  DERIVED. GIVEN WITH THE SEED: THE CARDS: each row of YtegmgflplhpacaaDoorRows.lean that lists a variable, with what it lists TIED to the program's text (the seventh form; the later family's looks); each row that meets fmt, with fmt's text TOLD by the authors' own Lean function (tested against real Go, not proved from fmt's source: count such statements apart). THE CARD IS WHAT COUNTS. Prove the row's statement (the work); the ties are given (YtegmgflplhpacaaDoorTie.lean); close each card by the builder's one call (the guide's Derived/Test/ToyasCard.lean, 'card_holds'). Laid BY PROGRAM, IN A SANDBOX (cutbox-door.mjs). By AI agents, Wed Nov 11 2026. No macro, syntax, notation, axiom, sorry.
-/
import Derived.Test.YtegmgflplhpacaaDoorRows
import GoSem.ClaimSeven
namespace Go.Proofs.YtegmgflplhpacaaDoor
namespace Rows

/-- THE TIED CARD OF 'starlinglaw13.RarestTurned'. -/
def rarestTurnedCard : Claim7 := { stood := { row := rarestTurnedRow, standIns := [], harness := (true, "a1f6a9a947c11d7bb8ad6500dd044059ce41b693d4bfefdaf766e2f2ed8d9fdf"), looks := false }, kinds := [], alts := [], laidByText := true, laidKinds := [.data], laidTests := true, laidLooks := .later }
def RarestTurnedCardSaid : Prop := Claim7.holds Tryd.pinned (.plain (OpenSpec.ofChange rarestTurnedSpec)) rarestTurnedCard

/-- THE TIED CARD OF 'starlinglaw13.RarestOwn'. -/
def rarestOwnCard : Claim7 := { stood := { row := rarestOwnRow, standIns := [], harness := (true, "a1f6a9a947c11d7bb8ad6500dd044059ce41b693d4bfefdaf766e2f2ed8d9fdf"), looks := false }, kinds := [], alts := [], laidByText := true, laidKinds := [.data], laidTests := true, laidLooks := .later }
def RarestOwnCardSaid : Prop := Claim7.holds Tryd.pinned (.plain (OpenSpec.ofChange rarestOwnSpec)) rarestOwnCard

/-- THE TIED CARD OF 'starlinglaw13.RarestPicks'. -/
def rarestPicksCard : Claim7 := { stood := { row := rarestPicksRow, standIns := [], harness := (true, "a1f6a9a947c11d7bb8ad6500dd044059ce41b693d4bfefdaf766e2f2ed8d9fdf"), looks := false }, kinds := [], alts := [], laidByText := true, laidKinds := [.data], laidTests := true, laidLooks := .later }
def RarestPicksCardSaid : Prop := Claim7.holds Tryd.pinned (.plain (OpenSpec.ofChange rarestPicksSpec)) rarestPicksCard

/-- THE TIED CARD OF 'starlinglaw13.RarestScripts'. -/
def rarestScriptsCard : Claim7 := { stood := { row := rarestScriptsRow, standIns := [], harness := (true, "a1f6a9a947c11d7bb8ad6500dd044059ce41b693d4bfefdaf766e2f2ed8d9fdf"), looks := false }, kinds := [], alts := [], laidByText := true, laidKinds := [.data], laidTests := true, laidLooks := .later }
def RarestScriptsCardSaid : Prop := Claim7.holds Tryd.pinned (.plain (OpenSpec.ofChange rarestScriptsSpec)) rarestScriptsCard

/-- THE TIED CARD OF 'starlinglaw13.RarestCounts'. -/
def rarestCountsCard : Claim7 := { stood := { row := rarestCountsRow, standIns := [], harness := (true, "a1f6a9a947c11d7bb8ad6500dd044059ce41b693d4bfefdaf766e2f2ed8d9fdf"), looks := false }, kinds := [], alts := [], laidByText := true, laidKinds := [.data], laidTests := true, laidLooks := .later }
def RarestCountsCardSaid : Prop := Claim7.holds Tryd.pinned (.plain (OpenSpec.ofChange rarestCountsSpec)) rarestCountsCard

/-- THE SECOND FORM's CARD OF 'starlinglaw13.RarestTurned'. -/
def rarestTurnedUptoCard : Claim7 := { stood := { row := rarestTurnedUptoRow, standIns := [], harness := (true, "a1f6a9a947c11d7bb8ad6500dd044059ce41b693d4bfefdaf766e2f2ed8d9fdf"), looks := false }, kinds := [], alts := [], laidByText := true, laidKinds := [.data], laidTests := true, laidLooks := .later }
def RarestTurnedUptoCardSaid : Prop := Claim7.holds Tryd.pinned (.plain (OpenSpec.upto rarestTurnedSpec)) rarestTurnedUptoCard

/-- THE SECOND FORM's CARD OF 'starlinglaw13.RarestOwn'. -/
def rarestOwnUptoCard : Claim7 := { stood := { row := rarestOwnUptoRow, standIns := [], harness := (true, "a1f6a9a947c11d7bb8ad6500dd044059ce41b693d4bfefdaf766e2f2ed8d9fdf"), looks := false }, kinds := [], alts := [], laidByText := true, laidKinds := [.data], laidTests := true, laidLooks := .later }
def RarestOwnUptoCardSaid : Prop := Claim7.holds Tryd.pinned (.plain (OpenSpec.upto rarestOwnSpec)) rarestOwnUptoCard

/-- THE SECOND FORM's CARD OF 'starlinglaw13.RarestPicks'. -/
def rarestPicksUptoCard : Claim7 := { stood := { row := rarestPicksUptoRow, standIns := [], harness := (true, "a1f6a9a947c11d7bb8ad6500dd044059ce41b693d4bfefdaf766e2f2ed8d9fdf"), looks := false }, kinds := [], alts := [], laidByText := true, laidKinds := [.data], laidTests := true, laidLooks := .later }
def RarestPicksUptoCardSaid : Prop := Claim7.holds Tryd.pinned (.plain (OpenSpec.upto rarestPicksSpec)) rarestPicksUptoCard

/-- THE SECOND FORM's CARD OF 'starlinglaw13.RarestScripts'. -/
def rarestScriptsUptoCard : Claim7 := { stood := { row := rarestScriptsUptoRow, standIns := [], harness := (true, "a1f6a9a947c11d7bb8ad6500dd044059ce41b693d4bfefdaf766e2f2ed8d9fdf"), looks := false }, kinds := [], alts := [], laidByText := true, laidKinds := [.data], laidTests := true, laidLooks := .later }
def RarestScriptsUptoCardSaid : Prop := Claim7.holds Tryd.pinned (.plain (OpenSpec.upto rarestScriptsSpec)) rarestScriptsUptoCard

/-- THE SECOND FORM's CARD OF 'starlinglaw13.RarestCounts'. -/
def rarestCountsUptoCard : Claim7 := { stood := { row := rarestCountsUptoRow, standIns := [], harness := (true, "a1f6a9a947c11d7bb8ad6500dd044059ce41b693d4bfefdaf766e2f2ed8d9fdf"), looks := false }, kinds := [], alts := [], laidByText := true, laidKinds := [.data], laidTests := true, laidLooks := .later }
def RarestCountsUptoCardSaid : Prop := Claim7.holds Tryd.pinned (.plain (OpenSpec.upto rarestCountsSpec)) rarestCountsUptoCard
end Rows
end Go.Proofs.YtegmgflplhpacaaDoor
