/- Are there more equations, or greater ones, than are looked at: the law's walk. Condition: lengths that memory bears. -/
import Derived.Test.YtkjaacpcnjakcaaEqAdd
set_option linter.unusedVariables false
namespace Go.Proofs.Ytkjaacpcnjakcaa
open Go.RowKit

structure SmallE (es : List EqV) : Prop where
  len : es.length ≤ 300
  of : (ofsE es).length ≤ 300
  val : ∀ e ∈ es, e.val.length ≤ 60
end Go.Proofs.Ytkjaacpcnjakcaa
