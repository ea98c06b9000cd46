/- Package flight: what Drop and Late ask of a request. -/
import Derived.Test.YtfopglaagnbacaaDoorFlC
namespace Go.Proofs.YtfopglaagnbacaaDoor.Fl
open Go Go.RowKit


end Go.Proofs.YtfopglaagnbacaaDoor.Fl
