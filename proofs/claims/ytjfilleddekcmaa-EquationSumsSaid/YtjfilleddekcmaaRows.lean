/-
  No cell of these rows narrows 'for every input' (looked for: loops, veiled, ifaces, maps, wideKeys, modest, calm, conditions, laid).
  DERIVED. THE GIVEN ROWS OF THIS SEAT. 12 by the template 'for every input the law returns true; each argument reads behind the call as it read before'; 0 by the template 'total and deterministic' (their statements: YtjfilleddekcmaaTotals.lean).
  GIVEN WITH THE SEED: the statements are not yours to turn. If you find one false, say at which input.
  Laid BY PROGRAM, IN A SANDBOX (cutbox-rows.mjs): the forced cells as the released guide's own fill.sh prints them over the translation 5da7f07c854b908f… (all of the seat's roots in one cut). By AI agents, Wed Nov 11 2026. No macro, syntax, notation, axiom, sorry.
-/
import Derived.Test.YtjfilleddekcmaaChecked
import GoSem.Claim
import GoSem.ClaimJoined
import GoSem.ClaimMapViews
import Derived.JoinedTies
import Derived.KernelRfl
namespace Go.Proofs.Ytjfilleddekcmaa
/- THE CELL 'sum', in the pinned program and in every row, IS THE sha256 OF THE DUMP (.gsa) THAT YtjfilleddekcmaaProg.lean LOADS. Nothing in Lean hashes anything: it is a label: what it is worth is what the hold of that sum in a sandbox is worth. -/
noncomputable def Try.pinned : Pinned := { name := "ytjfilleddekcmaa", sum := "5da7f07c854b908f736a3e18ed4c8415f0c9860f150396789c1628fc16d6825d", checked := Try.checked }
namespace Rows
def none {H : Type} : Left H := { results := [], args := [] }

/-- 'almonrylaw15.EquationAdds': WHATEVER THE INPUT: true; the input reads as it did. -/
def equationAddsSpec : ChangeSpec := { name := "equationAdds", fn := fun _ => fun
  | [d1, d2] => { results := [.lit (.bool true)], args := [d1, d2] }
  | _ => none }
def equationAddsRow : OpenClaim := { program := "ytjfilleddekcmaa", sum := "5da7f07c854b908f736a3e18ed4c8415f0c9860f150396789c1628fc16d6825d", func := "almonry/almonrylaw15.EquationAdds", spec := "equationAdds", unfollowed := true, recurses := true, apart := false }
def EquationAddsSaid : Prop := equationAddsRow.holds Try.pinned (OpenSpec.ofChange equationAddsSpec)

/-- ITS FALSE NEIGHBOUR: 'it returns false'. Refute it at one input. -/
def equationAddsWrong : ChangeSpec := { name := "equationAdds", fn := fun _ => fun
  | [d1, d2] => { results := [.lit (.bool false)], args := [d1, d2] }
  | _ => none }
def EquationAddsWrongFalsely : Prop := equationAddsRow.holds Try.pinned (OpenSpec.ofChange equationAddsWrong)

/-- 'almonrylaw15.EquationSums': WHATEVER THE INPUT: true; the input reads as it did. -/
def equationSumsSpec : ChangeSpec := { name := "equationSums", fn := fun _ => fun
  | [d1, d2, d3] => { results := [.lit (.bool true)], args := [d1, d2, d3] }
  | _ => none }
def equationSumsRow : OpenClaim := { program := "ytjfilleddekcmaa", sum := "5da7f07c854b908f736a3e18ed4c8415f0c9860f150396789c1628fc16d6825d", func := "almonry/almonrylaw15.EquationSums", spec := "equationSums", unfollowed := true, recurses := true, apart := false }
def EquationSumsSaid : Prop := equationSumsRow.holds Try.pinned (OpenSpec.ofChange equationSumsSpec)

/-- ITS FALSE NEIGHBOUR: 'it returns false'. Refute it at one input. -/
def equationSumsWrong : ChangeSpec := { name := "equationSums", fn := fun _ => fun
  | [d1, d2, d3] => { results := [.lit (.bool false)], args := [d1, d2, d3] }
  | _ => none }
def EquationSumsWrongFalsely : Prop := equationSumsRow.holds Try.pinned (OpenSpec.ofChange equationSumsWrong)

/-- 'almonrylaw15.EquationOrder': WHATEVER THE INPUT: true; the input reads as it did. -/
def equationOrderSpec : ChangeSpec := { name := "equationOrder", fn := fun _ => fun
  | [d1, d2, d3] => { results := [.lit (.bool true)], args := [d1, d2, d3] }
  | _ => none }
def equationOrderRow : OpenClaim := { program := "ytjfilleddekcmaa", sum := "5da7f07c854b908f736a3e18ed4c8415f0c9860f150396789c1628fc16d6825d", func := "almonry/almonrylaw15.EquationOrder", spec := "equationOrder", unfollowed := true, recurses := true, apart := false }
def EquationOrderSaid : Prop := equationOrderRow.holds Try.pinned (OpenSpec.ofChange equationOrderSpec)

/-- ITS FALSE NEIGHBOUR: 'it returns false'. Refute it at one input. -/
def equationOrderWrong : ChangeSpec := { name := "equationOrder", fn := fun _ => fun
  | [d1, d2, d3] => { results := [.lit (.bool false)], args := [d1, d2, d3] }
  | _ => none }
def EquationOrderWrongFalsely : Prop := equationOrderRow.holds Try.pinned (OpenSpec.ofChange equationOrderWrong)

/-- 'almonrylaw15.EquationHolds': WHATEVER THE INPUT: true; the input reads as it did. -/
def equationHoldsSpec : ChangeSpec := { name := "equationHolds", fn := fun _ => fun
  | [d1, d2, d3] => { results := [.lit (.bool true)], args := [d1, d2, d3] }
  | _ => none }
def equationHoldsRow : OpenClaim := { program := "ytjfilleddekcmaa", sum := "5da7f07c854b908f736a3e18ed4c8415f0c9860f150396789c1628fc16d6825d", func := "almonry/almonrylaw15.EquationHolds", spec := "equationHolds", unfollowed := true, recurses := true, apart := false }
def EquationHoldsSaid : Prop := equationHoldsRow.holds Try.pinned (OpenSpec.ofChange equationHoldsSpec)

/-- ITS FALSE NEIGHBOUR: 'it returns false'. Refute it at one input. -/
def equationHoldsWrong : ChangeSpec := { name := "equationHolds", fn := fun _ => fun
  | [d1, d2, d3] => { results := [.lit (.bool false)], args := [d1, d2, d3] }
  | _ => none }
def EquationHoldsWrongFalsely : Prop := equationHoldsRow.holds Try.pinned (OpenSpec.ofChange equationHoldsWrong)

/-- 'almonrylaw11.InnerDraws': WHATEVER THE INPUT: true; the input reads as it did. -/
def innerDrawsSpec : ChangeSpec := { name := "innerDraws", fn := fun _ => fun
  | [d1, d2, d3] => { results := [.lit (.bool true)], args := [d1, d2, d3] }
  | _ => none }
def innerDrawsRow : OpenClaim := { program := "ytjfilleddekcmaa", sum := "5da7f07c854b908f736a3e18ed4c8415f0c9860f150396789c1628fc16d6825d", func := "almonry/almonrylaw11.InnerDraws", spec := "innerDraws", unfollowed := true, recurses := true, named := ["math/bits.divideError", "math/bits.overflowError"], apart := false }
def InnerDrawsSaid : Prop := innerDrawsRow.holds Try.pinned (OpenSpec.ofChange innerDrawsSpec)

/-- ITS FALSE NEIGHBOUR: 'it returns false'. Refute it at one input. -/
def innerDrawsWrong : ChangeSpec := { name := "innerDraws", fn := fun _ => fun
  | [d1, d2, d3] => { results := [.lit (.bool false)], args := [d1, d2, d3] }
  | _ => none }
def InnerDrawsWrongFalsely : Prop := innerDrawsRow.holds Try.pinned (OpenSpec.ofChange innerDrawsWrong)

/-- 'almonrylaw11.InnerFits': WHATEVER THE INPUT: true; the input reads as it did. -/
def innerFitsSpec : ChangeSpec := { name := "innerFits", fn := fun _ => fun
  | [d1, d2, d3] => { results := [.lit (.bool true)], args := [d1, d2, d3] }
  | _ => none }
def innerFitsRow : OpenClaim := { program := "ytjfilleddekcmaa", sum := "5da7f07c854b908f736a3e18ed4c8415f0c9860f150396789c1628fc16d6825d", func := "almonry/almonrylaw11.InnerFits", spec := "innerFits", unfollowed := true, recurses := true, named := ["math/bits.divideError", "math/bits.overflowError"], apart := false }
def InnerFitsSaid : Prop := innerFitsRow.holds Try.pinned (OpenSpec.ofChange innerFitsSpec)

/-- ITS FALSE NEIGHBOUR: 'it returns false'. Refute it at one input. -/
def innerFitsWrong : ChangeSpec := { name := "innerFits", fn := fun _ => fun
  | [d1, d2, d3] => { results := [.lit (.bool false)], args := [d1, d2, d3] }
  | _ => none }
def InnerFitsWrongFalsely : Prop := innerFitsRow.holds Try.pinned (OpenSpec.ofChange innerFitsWrong)

/-- 'almonrylaw11.InnerShares': WHATEVER THE INPUT: true; the input reads as it did. -/
def innerSharesSpec : ChangeSpec := { name := "innerShares", fn := fun _ => fun
  | [d] => { results := [.lit (.bool true)], args := [d] }
  | _ => none }
def innerSharesRow : OpenClaim := { program := "ytjfilleddekcmaa", sum := "5da7f07c854b908f736a3e18ed4c8415f0c9860f150396789c1628fc16d6825d", func := "almonry/almonrylaw11.InnerShares", spec := "innerShares", unfollowed := true, recurses := true, named := ["math/bits.divideError", "math/bits.overflowError"], apart := false }
def InnerSharesSaid : Prop := innerSharesRow.holds Try.pinned (OpenSpec.ofChange innerSharesSpec)

/-- ITS FALSE NEIGHBOUR: 'it returns false'. Refute it at one input. -/
def innerSharesWrong : ChangeSpec := { name := "innerShares", fn := fun _ => fun
  | [d] => { results := [.lit (.bool false)], args := [d] }
  | _ => none }
def InnerSharesWrongFalsely : Prop := innerSharesRow.holds Try.pinned (OpenSpec.ofChange innerSharesWrong)

/-- 'almonrylaw13.ComposeBlocks': WHATEVER THE INPUT: true; the input reads as it did. -/
def composeBlocksSpec : ChangeSpec := { name := "composeBlocks", fn := fun _ => fun
  | [d1, d2, d3] => { results := [.lit (.bool true)], args := [d1, d2, d3] }
  | _ => none }
def composeBlocksRow : OpenClaim := { program := "ytjfilleddekcmaa", sum := "5da7f07c854b908f736a3e18ed4c8415f0c9860f150396789c1628fc16d6825d", func := "almonry/almonrylaw13.ComposeBlocks", spec := "composeBlocks", recurses := true, apart := false }
def ComposeBlocksSaid : Prop := composeBlocksRow.holds Try.pinned (OpenSpec.ofChange composeBlocksSpec)

/-- ITS FALSE NEIGHBOUR: 'it returns false'. Refute it at one input. -/
def composeBlocksWrong : ChangeSpec := { name := "composeBlocks", fn := fun _ => fun
  | [d1, d2, d3] => { results := [.lit (.bool false)], args := [d1, d2, d3] }
  | _ => none }
def ComposeBlocksWrongFalsely : Prop := composeBlocksRow.holds Try.pinned (OpenSpec.ofChange composeBlocksWrong)

/-- 'almonrylaw13.ComposeHolds': WHATEVER THE INPUT: true; the input reads as it did. -/
def composeHoldsSpec : ChangeSpec := { name := "composeHolds", fn := fun _ => fun
  | [d1, d2, d3] => { results := [.lit (.bool true)], args := [d1, d2, d3] }
  | _ => none }
def composeHoldsRow : OpenClaim := { program := "ytjfilleddekcmaa", sum := "5da7f07c854b908f736a3e18ed4c8415f0c9860f150396789c1628fc16d6825d", func := "almonry/almonrylaw13.ComposeHolds", spec := "composeHolds", recurses := true, apart := false }
def ComposeHoldsSaid : Prop := composeHoldsRow.holds Try.pinned (OpenSpec.ofChange composeHoldsSpec)

/-- ITS FALSE NEIGHBOUR: 'it returns false'. Refute it at one input. -/
def composeHoldsWrong : ChangeSpec := { name := "composeHolds", fn := fun _ => fun
  | [d1, d2, d3] => { results := [.lit (.bool false)], args := [d1, d2, d3] }
  | _ => none }
def ComposeHoldsWrongFalsely : Prop := composeHoldsRow.holds Try.pinned (OpenSpec.ofChange composeHoldsWrong)

/-- 'almonrylaw13.ComposeChecks': WHATEVER THE INPUT: true; the input reads as it did. -/
def composeChecksSpec : ChangeSpec := { name := "composeChecks", fn := fun _ => fun
  | [d1, d2, d3] => { results := [.lit (.bool true)], args := [d1, d2, d3] }
  | _ => none }
def composeChecksRow : OpenClaim := { program := "ytjfilleddekcmaa", sum := "5da7f07c854b908f736a3e18ed4c8415f0c9860f150396789c1628fc16d6825d", func := "almonry/almonrylaw13.ComposeChecks", spec := "composeChecks", recurses := true, apart := false }
def ComposeChecksSaid : Prop := composeChecksRow.holds Try.pinned (OpenSpec.ofChange composeChecksSpec)

/-- ITS FALSE NEIGHBOUR: 'it returns false'. Refute it at one input. -/
def composeChecksWrong : ChangeSpec := { name := "composeChecks", fn := fun _ => fun
  | [d1, d2, d3] => { results := [.lit (.bool false)], args := [d1, d2, d3] }
  | _ => none }
def ComposeChecksWrongFalsely : Prop := composeChecksRow.holds Try.pinned (OpenSpec.ofChange composeChecksWrong)

/-- 'almonrylaw13.ComposeRight': WHATEVER THE INPUT: true; the input reads as it did. -/
def composeRightSpec : ChangeSpec := { name := "composeRight", fn := fun _ => fun
  | [d] => { results := [.lit (.bool true)], args := [d] }
  | _ => none }
def composeRightRow : OpenClaim := { program := "ytjfilleddekcmaa", sum := "5da7f07c854b908f736a3e18ed4c8415f0c9860f150396789c1628fc16d6825d", func := "almonry/almonrylaw13.ComposeRight", spec := "composeRight", recurses := true, apart := false }
def ComposeRightSaid : Prop := composeRightRow.holds Try.pinned (OpenSpec.ofChange composeRightSpec)

/-- ITS FALSE NEIGHBOUR: 'it returns false'. Refute it at one input. -/
def composeRightWrong : ChangeSpec := { name := "composeRight", fn := fun _ => fun
  | [d] => { results := [.lit (.bool false)], args := [d] }
  | _ => none }
def ComposeRightWrongFalsely : Prop := composeRightRow.holds Try.pinned (OpenSpec.ofChange composeRightWrong)

/-- 'almonrylaw13.ComposeAdds': WHATEVER THE INPUT: true; the input reads as it did. -/
def composeAddsSpec : ChangeSpec := { name := "composeAdds", fn := fun _ => fun
  | [d1, d2, d3] => { results := [.lit (.bool true)], args := [d1, d2, d3] }
  | _ => none }
def composeAddsRow : OpenClaim := { program := "ytjfilleddekcmaa", sum := "5da7f07c854b908f736a3e18ed4c8415f0c9860f150396789c1628fc16d6825d", func := "almonry/almonrylaw13.ComposeAdds", spec := "composeAdds", recurses := true, apart := false }
def ComposeAddsSaid : Prop := composeAddsRow.holds Try.pinned (OpenSpec.ofChange composeAddsSpec)

/-- ITS FALSE NEIGHBOUR: 'it returns false'. Refute it at one input. -/
def composeAddsWrong : ChangeSpec := { name := "composeAdds", fn := fun _ => fun
  | [d1, d2, d3] => { results := [.lit (.bool false)], args := [d1, d2, d3] }
  | _ => none }
def ComposeAddsWrongFalsely : Prop := composeAddsRow.holds Try.pinned (OpenSpec.ofChange composeAddsWrong)

/- THE SECOND FORM. 'bulk': how many values and letters a reading holds, each counted each time it is reached (what is shared counts as often as it is met; a slice's spare places count too). A statement '..UptoSaid' is the law's where the arguments, and the package variables that the reading takes, are together of bulk at most 1048576: NARROWER than '..Said'. Prove '..Said' where nothing that the law and all that it calls make is longer than what came in: it says more and counts as full. Else prove '..UptoSaid'. A law counts once. -/
mutual
def uptoBulk {H : Type} : DataW H → Nat
  | .lit (.string bytes) => bytes.length + 1
  | .lit _ => 1
  | .nil => 1
  | .ptr d => uptoBulk d + 1
  | .slice elems spare => uptoBulkAll elems + uptoBulkAll spare + 1
  | .agg parts => uptoBulkAll parts + 1
  | .iface _ d => uptoBulk d + 1
  | .map entries => uptoBulkEntries entries + 1
  | .held _ => 1
def uptoBulkAll {H : Type} : List (DataW H) → Nat
  | [] => 0
  | d :: r => uptoBulk d + uptoBulkAll r
def uptoBulkEntries {H : Type} : List (Lit × DataW H) → Nat
  | [] => 0
  | x :: r => uptoBulkEntry x + uptoBulkEntries r
def uptoBulkEntry {H : Type} : Lit × DataW H → Nat
  | (.string bytes, d) => bytes.length + uptoBulk d + 1
  | (_, d) => uptoBulk d + 1
 end
def uptoSmall : (H : Type) → List (DataW H) → Bool := fun _ ds => decide (uptoBulkAll ds ≤ 1048576)
def OpenSpec.upto (s : _root_.Go.ChangeSpec) : _root_.Go.OpenSpec := { _root_.Go.OpenSpec.ofChange s with cond := some uptoSmall }

/-- 'almonrylaw15.EquationAdds', WHERE WHAT IT READS IS OF BULK AT MOST 1048576: true; the input reads as it did. -/
def equationAddsUptoRow : OpenClaim := { program := "ytjfilleddekcmaa", sum := "5da7f07c854b908f736a3e18ed4c8415f0c9860f150396789c1628fc16d6825d", func := "almonry/almonrylaw15.EquationAdds", spec := "equationAdds", unfollowed := true, recurses := true, apart := false, narrowed := true }
def EquationAddsUptoSaid : Prop := equationAddsUptoRow.holds Try.pinned (OpenSpec.upto equationAddsSpec)

/-- 'almonrylaw15.EquationSums', WHERE WHAT IT READS IS OF BULK AT MOST 1048576: true; the input reads as it did. -/
def equationSumsUptoRow : OpenClaim := { program := "ytjfilleddekcmaa", sum := "5da7f07c854b908f736a3e18ed4c8415f0c9860f150396789c1628fc16d6825d", func := "almonry/almonrylaw15.EquationSums", spec := "equationSums", unfollowed := true, recurses := true, apart := false, narrowed := true }
def EquationSumsUptoSaid : Prop := equationSumsUptoRow.holds Try.pinned (OpenSpec.upto equationSumsSpec)

/-- 'almonrylaw15.EquationOrder', WHERE WHAT IT READS IS OF BULK AT MOST 1048576: true; the input reads as it did. -/
def equationOrderUptoRow : OpenClaim := { program := "ytjfilleddekcmaa", sum := "5da7f07c854b908f736a3e18ed4c8415f0c9860f150396789c1628fc16d6825d", func := "almonry/almonrylaw15.EquationOrder", spec := "equationOrder", unfollowed := true, recurses := true, apart := false, narrowed := true }
def EquationOrderUptoSaid : Prop := equationOrderUptoRow.holds Try.pinned (OpenSpec.upto equationOrderSpec)

/-- 'almonrylaw15.EquationHolds', WHERE WHAT IT READS IS OF BULK AT MOST 1048576: true; the input reads as it did. -/
def equationHoldsUptoRow : OpenClaim := { program := "ytjfilleddekcmaa", sum := "5da7f07c854b908f736a3e18ed4c8415f0c9860f150396789c1628fc16d6825d", func := "almonry/almonrylaw15.EquationHolds", spec := "equationHolds", unfollowed := true, recurses := true, apart := false, narrowed := true }
def EquationHoldsUptoSaid : Prop := equationHoldsUptoRow.holds Try.pinned (OpenSpec.upto equationHoldsSpec)

/-- 'almonrylaw11.InnerDraws', WHERE WHAT IT READS IS OF BULK AT MOST 1048576: true; the input reads as it did. -/
def innerDrawsUptoRow : OpenClaim := { program := "ytjfilleddekcmaa", sum := "5da7f07c854b908f736a3e18ed4c8415f0c9860f150396789c1628fc16d6825d", func := "almonry/almonrylaw11.InnerDraws", spec := "innerDraws", unfollowed := true, recurses := true, named := ["math/bits.divideError", "math/bits.overflowError"], apart := false, narrowed := true }
def InnerDrawsUptoSaid : Prop := innerDrawsUptoRow.holds Try.pinned (OpenSpec.upto innerDrawsSpec)

/-- 'almonrylaw11.InnerFits', WHERE WHAT IT READS IS OF BULK AT MOST 1048576: true; the input reads as it did. -/
def innerFitsUptoRow : OpenClaim := { program := "ytjfilleddekcmaa", sum := "5da7f07c854b908f736a3e18ed4c8415f0c9860f150396789c1628fc16d6825d", func := "almonry/almonrylaw11.InnerFits", spec := "innerFits", unfollowed := true, recurses := true, named := ["math/bits.divideError", "math/bits.overflowError"], apart := false, narrowed := true }
def InnerFitsUptoSaid : Prop := innerFitsUptoRow.holds Try.pinned (OpenSpec.upto innerFitsSpec)

/-- 'almonrylaw11.InnerShares', WHERE WHAT IT READS IS OF BULK AT MOST 1048576: true; the input reads as it did. -/
def innerSharesUptoRow : OpenClaim := { program := "ytjfilleddekcmaa", sum := "5da7f07c854b908f736a3e18ed4c8415f0c9860f150396789c1628fc16d6825d", func := "almonry/almonrylaw11.InnerShares", spec := "innerShares", unfollowed := true, recurses := true, named := ["math/bits.divideError", "math/bits.overflowError"], apart := false, narrowed := true }
def InnerSharesUptoSaid : Prop := innerSharesUptoRow.holds Try.pinned (OpenSpec.upto innerSharesSpec)

/-- 'almonrylaw13.ComposeBlocks', WHERE WHAT IT READS IS OF BULK AT MOST 1048576: true; the input reads as it did. -/
def composeBlocksUptoRow : OpenClaim := { program := "ytjfilleddekcmaa", sum := "5da7f07c854b908f736a3e18ed4c8415f0c9860f150396789c1628fc16d6825d", func := "almonry/almonrylaw13.ComposeBlocks", spec := "composeBlocks", recurses := true, apart := false, narrowed := true }
def ComposeBlocksUptoSaid : Prop := composeBlocksUptoRow.holds Try.pinned (OpenSpec.upto composeBlocksSpec)

/-- 'almonrylaw13.ComposeHolds', WHERE WHAT IT READS IS OF BULK AT MOST 1048576: true; the input reads as it did. -/
def composeHoldsUptoRow : OpenClaim := { program := "ytjfilleddekcmaa", sum := "5da7f07c854b908f736a3e18ed4c8415f0c9860f150396789c1628fc16d6825d", func := "almonry/almonrylaw13.ComposeHolds", spec := "composeHolds", recurses := true, apart := false, narrowed := true }
def ComposeHoldsUptoSaid : Prop := composeHoldsUptoRow.holds Try.pinned (OpenSpec.upto composeHoldsSpec)

/-- 'almonrylaw13.ComposeChecks', WHERE WHAT IT READS IS OF BULK AT MOST 1048576: true; the input reads as it did. -/
def composeChecksUptoRow : OpenClaim := { program := "ytjfilleddekcmaa", sum := "5da7f07c854b908f736a3e18ed4c8415f0c9860f150396789c1628fc16d6825d", func := "almonry/almonrylaw13.ComposeChecks", spec := "composeChecks", recurses := true, apart := false, narrowed := true }
def ComposeChecksUptoSaid : Prop := composeChecksUptoRow.holds Try.pinned (OpenSpec.upto composeChecksSpec)

/-- 'almonrylaw13.ComposeRight', WHERE WHAT IT READS IS OF BULK AT MOST 1048576: true; the input reads as it did. -/
def composeRightUptoRow : OpenClaim := { program := "ytjfilleddekcmaa", sum := "5da7f07c854b908f736a3e18ed4c8415f0c9860f150396789c1628fc16d6825d", func := "almonry/almonrylaw13.ComposeRight", spec := "composeRight", recurses := true, apart := false, narrowed := true }
def ComposeRightUptoSaid : Prop := composeRightUptoRow.holds Try.pinned (OpenSpec.upto composeRightSpec)

/-- 'almonrylaw13.ComposeAdds', WHERE WHAT IT READS IS OF BULK AT MOST 1048576: true; the input reads as it did. -/
def composeAddsUptoRow : OpenClaim := { program := "ytjfilleddekcmaa", sum := "5da7f07c854b908f736a3e18ed4c8415f0c9860f150396789c1628fc16d6825d", func := "almonry/almonrylaw13.ComposeAdds", spec := "composeAdds", recurses := true, apart := false, narrowed := true }
def ComposeAddsUptoSaid : Prop := composeAddsUptoRow.holds Try.pinned (OpenSpec.upto composeAddsSpec)

end Rows
end Go.Proofs.Ytjfilleddekcmaa
