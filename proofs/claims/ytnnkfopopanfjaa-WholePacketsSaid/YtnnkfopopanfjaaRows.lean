/-
  No cell of these rows narrows 'for every input' (looked for: loops, veiled, ifaces, maps, wideKeys, modest, calm, conditions, laid).
  DERIVED. THE GIVEN ROWS OF THIS SEAT. 4 by the template 'for every input the law returns true; each argument reads behind the call as it read before'; 0 by the template 'total and deterministic' (their statements: YtnnkfopopanfjaaTotals.lean).
  GIVEN WITH THE SEED: the statements are not yours to turn. If you find one false, say at which input.
  Laid BY PROGRAM, IN A SANDBOX (cutbox-rows.mjs): the forced cells as the released guide's own fill.sh prints them over the translation a09f90aea967c4b4… (all of the seat's roots in one cut). By AI agents, Wed Nov 11 2026. No macro, syntax, notation, axiom, sorry.
-/
import Derived.Test.YtnnkfopopanfjaaChecked
import GoSem.Claim
import GoSem.ClaimJoined
import GoSem.ClaimMapViews
import Derived.JoinedTies
import Derived.KernelRfl
namespace Go.Proofs.Ytnnkfopopanfjaa
/- THE CELL 'sum', in the pinned program and in every row, IS THE sha256 OF THE DUMP (.gsa) THAT YtnnkfopopanfjaaProg.lean LOADS. Nothing in Lean hashes anything: it is a label: what it is worth is what the hold of that sum in a sandbox is worth. -/
noncomputable def Try.pinned : Pinned := { name := "ytnnkfopopanfjaa", sum := "a09f90aea967c4b41f5e6c1ac0e1ddf654d8e039a21a1b64af7d1cbb57d5915c", checked := Try.checked }
namespace Rows
def none {H : Type} : Left H := { results := [], args := [] }

/-- 'almonrylaw13.ComposeRight': WHATEVER THE INPUT: true; the input reads as it did. -/
def composeRightSpec : ChangeSpec := { name := "composeRight", fn := fun _ => fun
  | [d] => { results := [.lit (.bool true)], args := [d] }
  | _ => none }
def composeRightRow : OpenClaim := { program := "ytnnkfopopanfjaa", sum := "a09f90aea967c4b41f5e6c1ac0e1ddf654d8e039a21a1b64af7d1cbb57d5915c", func := "almonry/almonrylaw13.ComposeRight", spec := "composeRight", recurses := true, apart := false }
def ComposeRightSaid : Prop := composeRightRow.holds Try.pinned (OpenSpec.ofChange composeRightSpec)

/-- ITS FALSE NEIGHBOUR: 'it returns false'. Refute it at one input. -/
def composeRightWrong : ChangeSpec := { name := "composeRight", fn := fun _ => fun
  | [d] => { results := [.lit (.bool false)], args := [d] }
  | _ => none }
def ComposeRightWrongFalsely : Prop := composeRightRow.holds Try.pinned (OpenSpec.ofChange composeRightWrong)

/-- 'almonrytop.WholePackets': WHATEVER THE INPUT: true; the input reads as it did. -/
def wholePacketsSpec : ChangeSpec := { name := "wholePackets", fn := fun _ => fun
  | [d] => { results := [.lit (.bool true)], args := [d] }
  | _ => none }
def wholePacketsRow : OpenClaim := { program := "ytnnkfopopanfjaa", sum := "a09f90aea967c4b41f5e6c1ac0e1ddf654d8e039a21a1b64af7d1cbb57d5915c", func := "almonry/almonrytop.WholePackets", spec := "wholePackets", unfollowed := true, recurses := true, named := ["math/bits.divideError", "math/bits.overflowError"], apart := false }
def WholePacketsSaid : Prop := wholePacketsRow.holds Try.pinned (OpenSpec.ofChange wholePacketsSpec)

/-- ITS FALSE NEIGHBOUR: 'it returns false'. Refute it at one input. -/
def wholePacketsWrong : ChangeSpec := { name := "wholePackets", fn := fun _ => fun
  | [d] => { results := [.lit (.bool false)], args := [d] }
  | _ => none }
def WholePacketsWrongFalsely : Prop := wholePacketsRow.holds Try.pinned (OpenSpec.ofChange wholePacketsWrong)

/-- 'almonrylaw23.SendNew': WHATEVER THE INPUT: true; the input reads as it did. -/
def sendNewSpec : ChangeSpec := { name := "sendNew", fn := fun _ => fun
  | [d1, d2, d3] => { results := [.lit (.bool true)], args := [d1, d2, d3] }
  | _ => none }
def sendNewRow : OpenClaim := { program := "ytnnkfopopanfjaa", sum := "a09f90aea967c4b41f5e6c1ac0e1ddf654d8e039a21a1b64af7d1cbb57d5915c", func := "almonry/almonrylaw23.SendNew", spec := "sendNew", unfollowed := true, recurses := true, named := ["math/bits.divideError", "math/bits.overflowError"], apart := false }
def SendNewSaid : Prop := sendNewRow.holds Try.pinned (OpenSpec.ofChange sendNewSpec)

/-- ITS FALSE NEIGHBOUR: 'it returns false'. Refute it at one input. -/
def sendNewWrong : ChangeSpec := { name := "sendNew", fn := fun _ => fun
  | [d1, d2, d3] => { results := [.lit (.bool false)], args := [d1, d2, d3] }
  | _ => none }
def SendNewWrongFalsely : Prop := sendNewRow.holds Try.pinned (OpenSpec.ofChange sendNewWrong)

/-- 'almonrylaw23.SendOrder': WHATEVER THE INPUT: true; the input reads as it did. -/
def sendOrderSpec : ChangeSpec := { name := "sendOrder", fn := fun _ => fun
  | [d1, d2, d3] => { results := [.lit (.bool true)], args := [d1, d2, d3] }
  | _ => none }
def sendOrderRow : OpenClaim := { program := "ytnnkfopopanfjaa", sum := "a09f90aea967c4b41f5e6c1ac0e1ddf654d8e039a21a1b64af7d1cbb57d5915c", func := "almonry/almonrylaw23.SendOrder", spec := "sendOrder", unfollowed := true, recurses := true, named := ["math/bits.divideError", "math/bits.overflowError"], apart := false }
def SendOrderSaid : Prop := sendOrderRow.holds Try.pinned (OpenSpec.ofChange sendOrderSpec)

/-- ITS FALSE NEIGHBOUR: 'it returns false'. Refute it at one input. -/
def sendOrderWrong : ChangeSpec := { name := "sendOrder", fn := fun _ => fun
  | [d1, d2, d3] => { results := [.lit (.bool false)], args := [d1, d2, d3] }
  | _ => none }
def SendOrderWrongFalsely : Prop := sendOrderRow.holds Try.pinned (OpenSpec.ofChange sendOrderWrong)

/- THE SECOND FORM. 'bulk': how many values and letters a reading holds, each counted each time it is reached (what is shared counts as often as it is met; a slice's spare places count too). A statement '..UptoSaid' is the law's where the arguments, and the package variables that the reading takes, are together of bulk at most 1048576: NARROWER than '..Said'. Prove '..Said' where nothing that the law and all that it calls make is longer than what came in: it says more and counts as full. Else prove '..UptoSaid'. A law counts once. -/
mutual
def uptoBulk {H : Type} : DataW H → Nat
  | .lit (.string bytes) => bytes.length + 1
  | .lit _ => 1
  | .nil => 1
  | .ptr d => uptoBulk d + 1
  | .slice elems spare => uptoBulkAll elems + uptoBulkAll spare + 1
  | .agg parts => uptoBulkAll parts + 1
  | .iface _ d => uptoBulk d + 1
  | .map entries => uptoBulkEntries entries + 1
  | .held _ => 1
def uptoBulkAll {H : Type} : List (DataW H) → Nat
  | [] => 0
  | d :: r => uptoBulk d + uptoBulkAll r
def uptoBulkEntries {H : Type} : List (Lit × DataW H) → Nat
  | [] => 0
  | x :: r => uptoBulkEntry x + uptoBulkEntries r
def uptoBulkEntry {H : Type} : Lit × DataW H → Nat
  | (.string bytes, d) => bytes.length + uptoBulk d + 1
  | (_, d) => uptoBulk d + 1
 end
def uptoSmall : (H : Type) → List (DataW H) → Bool := fun _ ds => decide (uptoBulkAll ds ≤ 1048576)
def OpenSpec.upto (s : _root_.Go.ChangeSpec) : _root_.Go.OpenSpec := { _root_.Go.OpenSpec.ofChange s with cond := some uptoSmall }

/-- 'almonrylaw13.ComposeRight', WHERE WHAT IT READS IS OF BULK AT MOST 1048576: true; the input reads as it did. -/
def composeRightUptoRow : OpenClaim := { program := "ytnnkfopopanfjaa", sum := "a09f90aea967c4b41f5e6c1ac0e1ddf654d8e039a21a1b64af7d1cbb57d5915c", func := "almonry/almonrylaw13.ComposeRight", spec := "composeRight", recurses := true, apart := false, narrowed := true }
def ComposeRightUptoSaid : Prop := composeRightUptoRow.holds Try.pinned (OpenSpec.upto composeRightSpec)

/-- 'almonrytop.WholePackets', WHERE WHAT IT READS IS OF BULK AT MOST 1048576: true; the input reads as it did. -/
def wholePacketsUptoRow : OpenClaim := { program := "ytnnkfopopanfjaa", sum := "a09f90aea967c4b41f5e6c1ac0e1ddf654d8e039a21a1b64af7d1cbb57d5915c", func := "almonry/almonrytop.WholePackets", spec := "wholePackets", unfollowed := true, recurses := true, named := ["math/bits.divideError", "math/bits.overflowError"], apart := false, narrowed := true }
def WholePacketsUptoSaid : Prop := wholePacketsUptoRow.holds Try.pinned (OpenSpec.upto wholePacketsSpec)

/-- 'almonrylaw23.SendNew', WHERE WHAT IT READS IS OF BULK AT MOST 1048576: true; the input reads as it did. -/
def sendNewUptoRow : OpenClaim := { program := "ytnnkfopopanfjaa", sum := "a09f90aea967c4b41f5e6c1ac0e1ddf654d8e039a21a1b64af7d1cbb57d5915c", func := "almonry/almonrylaw23.SendNew", spec := "sendNew", unfollowed := true, recurses := true, named := ["math/bits.divideError", "math/bits.overflowError"], apart := false, narrowed := true }
def SendNewUptoSaid : Prop := sendNewUptoRow.holds Try.pinned (OpenSpec.upto sendNewSpec)

/-- 'almonrylaw23.SendOrder', WHERE WHAT IT READS IS OF BULK AT MOST 1048576: true; the input reads as it did. -/
def sendOrderUptoRow : OpenClaim := { program := "ytnnkfopopanfjaa", sum := "a09f90aea967c4b41f5e6c1ac0e1ddf654d8e039a21a1b64af7d1cbb57d5915c", func := "almonry/almonrylaw23.SendOrder", spec := "sendOrder", unfollowed := true, recurses := true, named := ["math/bits.divideError", "math/bits.overflowError"], apart := false, narrowed := true }
def SendOrderUptoSaid : Prop := sendOrderUptoRow.holds Try.pinned (OpenSpec.upto sendOrderSpec)

end Rows
end Go.Proofs.Ytnnkfopopanfjaa
