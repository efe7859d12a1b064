/- The walks of the laws of layer 11: inner. No condition but that numbers are of their kinds. -/
import Derived.Test.YtnnkfopopanfjaaInner
import Derived.Test.YtnnkfopopanfjaaG2
import Derived.Test.YtnnkfopopanfjaaG1
set_option linter.unusedVariables false
namespace Go.Proofs.Ytnnkfopopanfjaa
open Go.RowKit
attribute [local go_sem ↓] Go.wp_at_zero Go.wp_at_succ

theorem blkN_length {p : Par} (hm : p.may) (session id : Nat) : 1 ≤ (blkN p session id).length ∧ ((blkN p session id).length : Int) ≤ p.f ∧ ((blkN p session id).length : Int) ≤ p.all := by
  unfold blkN
  rw [someN_length]
  have h1 := degP_bounds hm (nxV (seedN [session, 2, id]))
  have h2 := all_bounds hm
  unfold cntN; split <;> omega
def par11 : Par := ⟨1, 1, 1, 1000, 2⟩
theorem par11_may : par11.may := by decide
theorem par11_all : par11.all = 2 := by decide
end Go.Proofs.Ytnnkfopopanfjaa
