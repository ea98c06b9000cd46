/-
  DERIVED. GIVEN WITH THE SEED: THE CARDS: each row of YtjmfhcliggjdgaaGreatDoorRows.lean that lists a variable, with what it lists TIED to the program's text (the seventh form; the later family's looks); each row that meets fmt, with fmt's text TOLD by the authors' own Lean function (tested against real Go, not proved from fmt's source: count such statements apart). THE CARD IS WHAT COUNTS. Prove the row's statement (the work); the ties are given (YtjmfhcliggjdgaaGreatDoorTie.lean); close each card by the builder's one call (the guide's Derived/Test/ToyasCard.lean, 'card_holds'). Laid BY PROGRAM, IN A SANDBOX (cutbox-door.mjs). By AI agents, Wed Nov 11 2026. No macro, syntax, notation, axiom, sorry.
-/
import Derived.Test.YtjmfhcliggjdgaaGreatDoorRows
import GoSem.ClaimSeven
namespace Go.Proofs.YtjmfhcliggjdgaaGreatDoor
namespace Rows

/-- THE TIED CARD OF 'starlinglaw18.ConnAsks'. -/
def connAsksCard : Claim7 := { stood := { row := connAsksRow, standIns := [], harness := (true, "dfc9d251be3fbf49e28145a014c09a88c8ac68115602ec22a5ef2c0a3a5b7ab4"), looks := false }, kinds := [], alts := [], laidByText := true, laidKinds := [.data], laidTests := true, laidLooks := .later }
def ConnAsksCardSaid : Prop := Claim7.holds Tryz.pinned (.plain (OpenSpec.ofChange connAsksSpec)) connAsksCard

/-- THE TIED CARD OF 'starlinglaw18.ConnFalls'. -/
def connFallsCard : Claim7 := { stood := { row := connFallsRow, standIns := [], harness := (true, "dfc9d251be3fbf49e28145a014c09a88c8ac68115602ec22a5ef2c0a3a5b7ab4"), looks := false }, kinds := [], alts := [], laidByText := true, laidKinds := [.data], laidTests := true, laidLooks := .later }
def ConnFallsCardSaid : Prop := Claim7.holds Tryz.pinned (.plain (OpenSpec.ofChange connFallsSpec)) connFallsCard

/-- THE TIED CARD OF 'starlinglaw18.ConnScripts'. -/
def connScriptsCard : Claim7 := { stood := { row := connScriptsRow, standIns := [], harness := (true, "dfc9d251be3fbf49e28145a014c09a88c8ac68115602ec22a5ef2c0a3a5b7ab4"), looks := false }, kinds := [], alts := [], laidByText := true, laidKinds := [.data], laidTests := true, laidLooks := .later }
def ConnScriptsCardSaid : Prop := Claim7.holds Tryz.pinned (.plain (OpenSpec.ofChange connScriptsSpec)) connScriptsCard

/-- THE TIED CARD OF 'starlinglaw18.ConnGoes'. -/
def connGoesCard : Claim7 := { stood := { row := connGoesRow, standIns := [], harness := (true, "dfc9d251be3fbf49e28145a014c09a88c8ac68115602ec22a5ef2c0a3a5b7ab4"), looks := false }, kinds := [], alts := [], laidByText := true, laidKinds := [.data], laidTests := true, laidLooks := .later }
def ConnGoesCardSaid : Prop := Claim7.holds Tryz.pinned (.plain (OpenSpec.ofChange connGoesSpec)) connGoesCard

/-- THE SECOND FORM's CARD OF 'starlinglaw18.ConnAsks'. -/
def connAsksUptoCard : Claim7 := { stood := { row := connAsksUptoRow, standIns := [], harness := (true, "dfc9d251be3fbf49e28145a014c09a88c8ac68115602ec22a5ef2c0a3a5b7ab4"), looks := false }, kinds := [], alts := [], laidByText := true, laidKinds := [.data], laidTests := true, laidLooks := .later }
def ConnAsksUptoCardSaid : Prop := Claim7.holds Tryz.pinned (.plain (OpenSpec.upto connAsksSpec)) connAsksUptoCard

/-- THE SECOND FORM's CARD OF 'starlinglaw18.ConnFalls'. -/
def connFallsUptoCard : Claim7 := { stood := { row := connFallsUptoRow, standIns := [], harness := (true, "dfc9d251be3fbf49e28145a014c09a88c8ac68115602ec22a5ef2c0a3a5b7ab4"), looks := false }, kinds := [], alts := [], laidByText := true, laidKinds := [.data], laidTests := true, laidLooks := .later }
def ConnFallsUptoCardSaid : Prop := Claim7.holds Tryz.pinned (.plain (OpenSpec.upto connFallsSpec)) connFallsUptoCard

/-- THE SECOND FORM's CARD OF 'starlinglaw18.ConnScripts'. -/
def connScriptsUptoCard : Claim7 := { stood := { row := connScriptsUptoRow, standIns := [], harness := (true, "dfc9d251be3fbf49e28145a014c09a88c8ac68115602ec22a5ef2c0a3a5b7ab4"), looks := false }, kinds := [], alts := [], laidByText := true, laidKinds := [.data], laidTests := true, laidLooks := .later }
def ConnScriptsUptoCardSaid : Prop := Claim7.holds Tryz.pinned (.plain (OpenSpec.upto connScriptsSpec)) connScriptsUptoCard

/-- THE SECOND FORM's CARD OF 'starlinglaw18.ConnGoes'. -/
def connGoesUptoCard : Claim7 := { stood := { row := connGoesUptoRow, standIns := [], harness := (true, "dfc9d251be3fbf49e28145a014c09a88c8ac68115602ec22a5ef2c0a3a5b7ab4"), looks := false }, kinds := [], alts := [], laidByText := true, laidKinds := [.data], laidTests := true, laidLooks := .later }
def ConnGoesUptoCardSaid : Prop := Claim7.holds Tryz.pinned (.plain (OpenSpec.upto connGoesSpec)) connGoesUptoCard
end Rows
end Go.Proofs.YtjmfhcliggjdgaaGreatDoor
