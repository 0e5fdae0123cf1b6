/- far; NetNumbers: the walks, by the engine. -/
import Derived.Test.YtlchegpgicdldaaDoorNxa
namespace Go.Proofs.YtlchegpgicdldaaDoor
open Go.Sx Go.RowKit Go.Reg

set_option maxRecDepth 100000
def pl14 : List (Nat × Plan) := []
end Go.Proofs.YtlchegpgicdldaaDoor
