/- The numbers that are there an odd number of times: the program's walk. Condition: a length that the list's reads bear. -/
import Derived.Test.YtnnkfopopanfjaaSeqVals
import Derived.Test.YtnnkfopopanfjaaOddMath
import Derived.BigQuiet
set_option linter.unusedVariables false
namespace Go.Proofs.Ytnnkfopopanfjaa
open Go.RowKit

theorem odd_rem (i k : Nat) (h : i ≤ k) : ((((k : Int) - (i : Int)).tmod 2) = 1) ↔ (k - i) % 2 = 1 := by
  rw [show ((k : Int) - (i : Int)) = ((k - i : Nat) : Int) by omega, Int.tmod_eq_emod_of_nonneg (by omega)]
  omega
end Go.Proofs.Ytnnkfopopanfjaa
