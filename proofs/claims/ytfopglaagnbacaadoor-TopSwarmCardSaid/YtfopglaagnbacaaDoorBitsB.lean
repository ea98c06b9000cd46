/- Load and Bytes of package bits; no condition. -/
import Derived.Test.YtfopglaagnbacaaDoorBitsA
import Derived.Test.YtfopglaagnbacaaDoorStage
import Derived.Deep.QuietTactic
import Derived.BigQuiet
namespace Go.Proofs.YtfopglaagnbacaaDoor
open Go Go.RowKit




/-- What Bytes tells. -/
def bytesOf (f : Nat → Bool) (n : Nat) : List Nat := (List.range ((n + 7) / 8)).map (byt f)
end Go.Proofs.YtfopglaagnbacaaDoor
