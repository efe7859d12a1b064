/- Are two equations one: the program's walk. Conditions: what is read lies there. -/
import Derived.Test.YtpkkaicpbihjfaaEqAdd
set_option linter.unusedVariables false
namespace Go.Proofs.Ytpkkaicpbihjfaa
open Go.RowKit

def sameE (a b : EqV) : Bool := decide (a.of = b.of) && decide (a.val = b.val)
end Go.Proofs.Ytpkkaicpbihjfaa
