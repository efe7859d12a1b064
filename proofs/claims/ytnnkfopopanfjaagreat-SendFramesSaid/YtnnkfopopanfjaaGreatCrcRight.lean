/- Are bytes others with their sum behind them: the walk of crc.Right. Conditions: lengths that memory bears. -/
import Derived.Test.YtnnkfopopanfjaaGreatCrc
import Derived.BigQuiet
set_option linter.unusedVariables false
set_option linter.unusedSimpArgs false
namespace Go.Proofs.YtnnkfopopanfjaaGreat
open Go.RowKit

/-- Are bytes others with their sum behind them? -/
def rightL (l : List UInt8) : Bool := decide (4 ≤ l.length) && ((strOf (sealB (l.take (l.length - 4)))).toList == (strOf l).toList)
end Go.Proofs.YtnnkfopopanfjaaGreat
