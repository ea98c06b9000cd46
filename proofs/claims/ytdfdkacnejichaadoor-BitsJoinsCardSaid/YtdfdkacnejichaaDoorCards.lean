/-
  DERIVED. GIVEN WITH THE SEED: THE CARDS: each row of YtdfdkacnejichaaDoorRows.lean that lists a variable, with what it lists TIED to the program's text (the seventh form; the later family's looks); each row that meets fmt, with fmt's text TOLD by the authors' own Lean function (tested against real Go, not proved from fmt's source: count such statements apart). THE CARD IS WHAT COUNTS. Prove the row's statement (the work); the ties are given (YtdfdkacnejichaaDoorTie.lean); close each card by the builder's one call (the guide's Derived/Test/ToyasCard.lean, 'card_holds'). Laid BY PROGRAM, IN A SANDBOX (cutbox-door.mjs). By AI agents, Wed Nov 11 2026. No macro, syntax, notation, axiom, sorry.
-/
import Derived.Test.YtdfdkacnejichaaDoorRows
import GoSem.ClaimSeven
namespace Go.Proofs.YtdfdkacnejichaaDoor
namespace Rows

/-- THE TIED CARD OF 'starlinglaw02.BitsGoes'. -/
def bitsGoesCard : Claim7 := { stood := { row := bitsGoesRow, standIns := [], harness := (true, "17a20dcb22858688145cd29ebbd6044950d8d83bc8a1b22dc7a79f8cd6c7c1a5"), looks := false }, kinds := [], alts := [], laidByText := true, laidKinds := [.data], laidTests := true, laidLooks := .later }
def BitsGoesCardSaid : Prop := Claim7.holds Tryd.pinned (.plain (OpenSpec.ofChange bitsGoesSpec)) bitsGoesCard

/-- THE TIED CARD OF 'starlinglaw02.BitsFills'. -/
def bitsFillsCard : Claim7 := { stood := { row := bitsFillsRow, standIns := [], harness := (true, "17a20dcb22858688145cd29ebbd6044950d8d83bc8a1b22dc7a79f8cd6c7c1a5"), looks := false }, kinds := [], alts := [], laidByText := true, laidKinds := [.data], laidTests := true, laidLooks := .later }
def BitsFillsCardSaid : Prop := Claim7.holds Tryd.pinned (.plain (OpenSpec.ofChange bitsFillsSpec)) bitsFillsCard

/-- THE TIED CARD OF 'starlinglaw02.BitsScripts'. -/
def bitsScriptsCard : Claim7 := { stood := { row := bitsScriptsRow, standIns := [], harness := (true, "17a20dcb22858688145cd29ebbd6044950d8d83bc8a1b22dc7a79f8cd6c7c1a5"), looks := false }, kinds := [], alts := [], laidByText := true, laidKinds := [.data], laidTests := true, laidLooks := .later }
def BitsScriptsCardSaid : Prop := Claim7.holds Tryd.pinned (.plain (OpenSpec.ofChange bitsScriptsSpec)) bitsScriptsCard

/-- THE TIED CARD OF 'starlinglaw02.BitsCounts'. -/
def bitsCountsCard : Claim7 := { stood := { row := bitsCountsRow, standIns := [], harness := (true, "17a20dcb22858688145cd29ebbd6044950d8d83bc8a1b22dc7a79f8cd6c7c1a5"), looks := false }, kinds := [], alts := [], laidByText := true, laidKinds := [.data], laidTests := true, laidLooks := .later }
def BitsCountsCardSaid : Prop := Claim7.holds Tryd.pinned (.plain (OpenSpec.ofChange bitsCountsSpec)) bitsCountsCard

/-- THE TIED CARD OF 'starlinglaw02.BitsSame'. -/
def bitsSameCard : Claim7 := { stood := { row := bitsSameRow, standIns := [], harness := (true, "17a20dcb22858688145cd29ebbd6044950d8d83bc8a1b22dc7a79f8cd6c7c1a5"), looks := false }, kinds := [], alts := [], laidByText := true, laidKinds := [.data], laidTests := true, laidLooks := .later }
def BitsSameCardSaid : Prop := Claim7.holds Tryd.pinned (.plain (OpenSpec.ofChange bitsSameSpec)) bitsSameCard

/-- THE TIED CARD OF 'starlinglaw02.BitsRuns'. -/
def bitsRunsCard : Claim7 := { stood := { row := bitsRunsRow, standIns := [], harness := (true, "17a20dcb22858688145cd29ebbd6044950d8d83bc8a1b22dc7a79f8cd6c7c1a5"), looks := false }, kinds := [], alts := [], laidByText := true, laidKinds := [.data], laidTests := true, laidLooks := .later }
def BitsRunsCardSaid : Prop := Claim7.holds Tryd.pinned (.plain (OpenSpec.ofChange bitsRunsSpec)) bitsRunsCard

/-- THE TIED CARD OF 'starlinglaw02.BitsJoins'. -/
def bitsJoinsCard : Claim7 := { stood := { row := bitsJoinsRow, standIns := [], harness := (true, "17a20dcb22858688145cd29ebbd6044950d8d83bc8a1b22dc7a79f8cd6c7c1a5"), looks := false }, kinds := [], alts := [], laidByText := true, laidKinds := [.data], laidTests := true, laidLooks := .later }
def BitsJoinsCardSaid : Prop := Claim7.holds Tryd.pinned (.plain (OpenSpec.ofChange bitsJoinsSpec)) bitsJoinsCard

/-- THE TIED CARD OF 'starlinglaw02.BitsBack'. -/
def bitsBackCard : Claim7 := { stood := { row := bitsBackRow, standIns := [], harness := (true, "17a20dcb22858688145cd29ebbd6044950d8d83bc8a1b22dc7a79f8cd6c7c1a5"), looks := false }, kinds := [], alts := [], laidByText := true, laidKinds := [.data], laidTests := true, laidLooks := .later }
def BitsBackCardSaid : Prop := Claim7.holds Tryd.pinned (.plain (OpenSpec.ofChange bitsBackSpec)) bitsBackCard

/-- THE SECOND FORM's CARD OF 'starlinglaw02.BitsGoes'. -/
def bitsGoesUptoCard : Claim7 := { stood := { row := bitsGoesUptoRow, standIns := [], harness := (true, "17a20dcb22858688145cd29ebbd6044950d8d83bc8a1b22dc7a79f8cd6c7c1a5"), looks := false }, kinds := [], alts := [], laidByText := true, laidKinds := [.data], laidTests := true, laidLooks := .later }
def BitsGoesUptoCardSaid : Prop := Claim7.holds Tryd.pinned (.plain (OpenSpec.upto bitsGoesSpec)) bitsGoesUptoCard

/-- THE SECOND FORM's CARD OF 'starlinglaw02.BitsFills'. -/
def bitsFillsUptoCard : Claim7 := { stood := { row := bitsFillsUptoRow, standIns := [], harness := (true, "17a20dcb22858688145cd29ebbd6044950d8d83bc8a1b22dc7a79f8cd6c7c1a5"), looks := false }, kinds := [], alts := [], laidByText := true, laidKinds := [.data], laidTests := true, laidLooks := .later }
def BitsFillsUptoCardSaid : Prop := Claim7.holds Tryd.pinned (.plain (OpenSpec.upto bitsFillsSpec)) bitsFillsUptoCard

/-- THE SECOND FORM's CARD OF 'starlinglaw02.BitsScripts'. -/
def bitsScriptsUptoCard : Claim7 := { stood := { row := bitsScriptsUptoRow, standIns := [], harness := (true, "17a20dcb22858688145cd29ebbd6044950d8d83bc8a1b22dc7a79f8cd6c7c1a5"), looks := false }, kinds := [], alts := [], laidByText := true, laidKinds := [.data], laidTests := true, laidLooks := .later }
def BitsScriptsUptoCardSaid : Prop := Claim7.holds Tryd.pinned (.plain (OpenSpec.upto bitsScriptsSpec)) bitsScriptsUptoCard

/-- THE SECOND FORM's CARD OF 'starlinglaw02.BitsCounts'. -/
def bitsCountsUptoCard : Claim7 := { stood := { row := bitsCountsUptoRow, standIns := [], harness := (true, "17a20dcb22858688145cd29ebbd6044950d8d83bc8a1b22dc7a79f8cd6c7c1a5"), looks := false }, kinds := [], alts := [], laidByText := true, laidKinds := [.data], laidTests := true, laidLooks := .later }
def BitsCountsUptoCardSaid : Prop := Claim7.holds Tryd.pinned (.plain (OpenSpec.upto bitsCountsSpec)) bitsCountsUptoCard

/-- THE SECOND FORM's CARD OF 'starlinglaw02.BitsSame'. -/
def bitsSameUptoCard : Claim7 := { stood := { row := bitsSameUptoRow, standIns := [], harness := (true, "17a20dcb22858688145cd29ebbd6044950d8d83bc8a1b22dc7a79f8cd6c7c1a5"), looks := false }, kinds := [], alts := [], laidByText := true, laidKinds := [.data], laidTests := true, laidLooks := .later }
def BitsSameUptoCardSaid : Prop := Claim7.holds Tryd.pinned (.plain (OpenSpec.upto bitsSameSpec)) bitsSameUptoCard

/-- THE SECOND FORM's CARD OF 'starlinglaw02.BitsRuns'. -/
def bitsRunsUptoCard : Claim7 := { stood := { row := bitsRunsUptoRow, standIns := [], harness := (true, "17a20dcb22858688145cd29ebbd6044950d8d83bc8a1b22dc7a79f8cd6c7c1a5"), looks := false }, kinds := [], alts := [], laidByText := true, laidKinds := [.data], laidTests := true, laidLooks := .later }
def BitsRunsUptoCardSaid : Prop := Claim7.holds Tryd.pinned (.plain (OpenSpec.upto bitsRunsSpec)) bitsRunsUptoCard

/-- THE SECOND FORM's CARD OF 'starlinglaw02.BitsJoins'. -/
def bitsJoinsUptoCard : Claim7 := { stood := { row := bitsJoinsUptoRow, standIns := [], harness := (true, "17a20dcb22858688145cd29ebbd6044950d8d83bc8a1b22dc7a79f8cd6c7c1a5"), looks := false }, kinds := [], alts := [], laidByText := true, laidKinds := [.data], laidTests := true, laidLooks := .later }
def BitsJoinsUptoCardSaid : Prop := Claim7.holds Tryd.pinned (.plain (OpenSpec.upto bitsJoinsSpec)) bitsJoinsUptoCard

/-- THE SECOND FORM's CARD OF 'starlinglaw02.BitsBack'. -/
def bitsBackUptoCard : Claim7 := { stood := { row := bitsBackUptoRow, standIns := [], harness := (true, "17a20dcb22858688145cd29ebbd6044950d8d83bc8a1b22dc7a79f8cd6c7c1a5"), looks := false }, kinds := [], alts := [], laidByText := true, laidKinds := [.data], laidTests := true, laidLooks := .later }
def BitsBackUptoCardSaid : Prop := Claim7.holds Tryd.pinned (.plain (OpenSpec.upto bitsBackSpec)) bitsBackUptoCard
end Rows
end Go.Proofs.YtdfdkacnejichaaDoor
