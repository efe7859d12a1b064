/-
  No cell of these rows narrows 'for every input' (looked for: loops, veiled, ifaces, maps, wideKeys, modest, calm, conditions, laid).
  DERIVED. THE GIVEN ROWS OF THIS SEAT. 7 by the template 'for every input the law returns true; each argument reads behind the call as it read before'; 0 by the template 'total and deterministic' (their statements: YtnoooeeciebhfaaTotals.lean).
  GIVEN WITH THE SEED: the statements are not yours to turn. If you find one false, say at which input.
  Laid BY PROGRAM, IN A SANDBOX (cutbox-rows.mjs): the forced cells as the released guide's own fill.sh prints them over the translation d897c4dbe34ea7e9… (all of the seat's roots in one cut). By AI agents, Wed Nov 11 2026. No macro, syntax, notation, axiom, sorry.
-/
import Derived.Test.YtnoooeeciebhfaaChecked
import GoSem.Claim
import GoSem.ClaimJoined
import GoSem.ClaimMapViews
import Derived.JoinedTies
import Derived.KernelRfl
namespace Go.Proofs.Ytnoooeeciebhfaa
/- THE CELL 'sum', in the pinned program and in every row, IS THE sha256 OF THE DUMP (.gsa) THAT YtnoooeeciebhfaaProg.lean LOADS. Nothing in Lean hashes anything: it is a label: what it is worth is what the hold of that sum in a sandbox is worth. -/
noncomputable def Try.pinned : Pinned := { name := "ytnoooeeciebhfaa", sum := "d897c4dbe34ea7e92759c5b1e1a459eb0d4a7dfd6acee63474a105a853def0b1", checked := Try.checked }
namespace Rows
def none {H : Type} : Left H := { results := [], args := [] }

/-- 'almonrylaw19.EdgesEmpty': WHATEVER THE INPUT: true; the input reads as it did. -/
def edgesEmptySpec : ChangeSpec := { name := "edgesEmpty", fn := fun _ => fun
  | [d1, d2] => { results := [.lit (.bool true)], args := [d1, d2] }
  | _ => none }
def edgesEmptyRow : OpenClaim := { program := "ytnoooeeciebhfaa", sum := "d897c4dbe34ea7e92759c5b1e1a459eb0d4a7dfd6acee63474a105a853def0b1", func := "almonry/almonrylaw19.EdgesEmpty", spec := "edgesEmpty", recurses := true, apart := false }
def EdgesEmptySaid : Prop := edgesEmptyRow.holds Try.pinned (OpenSpec.ofChange edgesEmptySpec)

/-- ITS FALSE NEIGHBOUR: 'it returns false'. Refute it at one input. -/
def edgesEmptyWrong : ChangeSpec := { name := "edgesEmpty", fn := fun _ => fun
  | [d1, d2] => { results := [.lit (.bool false)], args := [d1, d2] }
  | _ => none }
def EdgesEmptyWrongFalsely : Prop := edgesEmptyRow.holds Try.pinned (OpenSpec.ofChange edgesEmptyWrong)

/-- 'almonrylaw19.EdgesBoth': WHATEVER THE INPUT: true; the input reads as it did. -/
def edgesBothSpec : ChangeSpec := { name := "edgesBoth", fn := fun _ => fun
  | [d] => { results := [.lit (.bool true)], args := [d] }
  | _ => none }
def edgesBothRow : OpenClaim := { program := "ytnoooeeciebhfaa", sum := "d897c4dbe34ea7e92759c5b1e1a459eb0d4a7dfd6acee63474a105a853def0b1", func := "almonry/almonrylaw19.EdgesBoth", spec := "edgesBoth", recurses := true, apart := false }
def EdgesBothSaid : Prop := edgesBothRow.holds Try.pinned (OpenSpec.ofChange edgesBothSpec)

/-- ITS FALSE NEIGHBOUR: 'it returns false'. Refute it at one input. -/
def edgesBothWrong : ChangeSpec := { name := "edgesBoth", fn := fun _ => fun
  | [d] => { results := [.lit (.bool false)], args := [d] }
  | _ => none }
def EdgesBothWrongFalsely : Prop := edgesBothRow.holds Try.pinned (OpenSpec.ofChange edgesBothWrong)

/-- 'almonrylaw19.EdgesDo': WHATEVER THE INPUT: true; the input reads as it did. -/
def edgesDoSpec : ChangeSpec := { name := "edgesDo", fn := fun _ => fun
  | [d1, d2] => { results := [.lit (.bool true)], args := [d1, d2] }
  | _ => none }
def edgesDoRow : OpenClaim := { program := "ytnoooeeciebhfaa", sum := "d897c4dbe34ea7e92759c5b1e1a459eb0d4a7dfd6acee63474a105a853def0b1", func := "almonry/almonrylaw19.EdgesDo", spec := "edgesDo", recurses := true, apart := false }
def EdgesDoSaid : Prop := edgesDoRow.holds Try.pinned (OpenSpec.ofChange edgesDoSpec)

/-- ITS FALSE NEIGHBOUR: 'it returns false'. Refute it at one input. -/
def edgesDoWrong : ChangeSpec := { name := "edgesDo", fn := fun _ => fun
  | [d1, d2] => { results := [.lit (.bool false)], args := [d1, d2] }
  | _ => none }
def EdgesDoWrongFalsely : Prop := edgesDoRow.holds Try.pinned (OpenSpec.ofChange edgesDoWrong)

/-- 'almonrylaw16.ClosureReaches': WHATEVER THE INPUT: true; the input reads as it did. -/
def closureReachesSpec : ChangeSpec := { name := "closureReaches", fn := fun _ => fun
  | [d1, d2] => { results := [.lit (.bool true)], args := [d1, d2] }
  | _ => none }
def closureReachesRow : OpenClaim := { program := "ytnoooeeciebhfaa", sum := "d897c4dbe34ea7e92759c5b1e1a459eb0d4a7dfd6acee63474a105a853def0b1", func := "almonry/almonrylaw16.ClosureReaches", spec := "closureReaches", unfollowed := true, recurses := true, apart := false }
def ClosureReachesSaid : Prop := closureReachesRow.holds Try.pinned (OpenSpec.ofChange closureReachesSpec)

/-- ITS FALSE NEIGHBOUR: 'it returns false'. Refute it at one input. -/
def closureReachesWrong : ChangeSpec := { name := "closureReaches", fn := fun _ => fun
  | [d1, d2] => { results := [.lit (.bool false)], args := [d1, d2] }
  | _ => none }
def ClosureReachesWrongFalsely : Prop := closureReachesRow.holds Try.pinned (OpenSpec.ofChange closureReachesWrong)

/-- 'almonrylaw16.ClosureAgrees': WHATEVER THE INPUT: true; the input reads as it did. -/
def closureAgreesSpec : ChangeSpec := { name := "closureAgrees", fn := fun _ => fun
  | [d] => { results := [.lit (.bool true)], args := [d] }
  | _ => none }
def closureAgreesRow : OpenClaim := { program := "ytnoooeeciebhfaa", sum := "d897c4dbe34ea7e92759c5b1e1a459eb0d4a7dfd6acee63474a105a853def0b1", func := "almonry/almonrylaw16.ClosureAgrees", spec := "closureAgrees", unfollowed := true, recurses := true, apart := false }
def ClosureAgreesSaid : Prop := closureAgreesRow.holds Try.pinned (OpenSpec.ofChange closureAgreesSpec)

/-- ITS FALSE NEIGHBOUR: 'it returns false'. Refute it at one input. -/
def closureAgreesWrong : ChangeSpec := { name := "closureAgrees", fn := fun _ => fun
  | [d] => { results := [.lit (.bool false)], args := [d] }
  | _ => none }
def ClosureAgreesWrongFalsely : Prop := closureAgreesRow.holds Try.pinned (OpenSpec.ofChange closureAgreesWrong)

/-- 'almonrylaw16.ClosureTrue': WHATEVER THE INPUT: true; the input reads as it did. -/
def closureTrueSpec : ChangeSpec := { name := "closureTrue", fn := fun _ => fun
  | [d1, d2] => { results := [.lit (.bool true)], args := [d1, d2] }
  | _ => none }
def closureTrueRow : OpenClaim := { program := "ytnoooeeciebhfaa", sum := "d897c4dbe34ea7e92759c5b1e1a459eb0d4a7dfd6acee63474a105a853def0b1", func := "almonry/almonrylaw16.ClosureTrue", spec := "closureTrue", unfollowed := true, recurses := true, apart := false }
def ClosureTrueSaid : Prop := closureTrueRow.holds Try.pinned (OpenSpec.ofChange closureTrueSpec)

/-- ITS FALSE NEIGHBOUR: 'it returns false'. Refute it at one input. -/
def closureTrueWrong : ChangeSpec := { name := "closureTrue", fn := fun _ => fun
  | [d1, d2] => { results := [.lit (.bool false)], args := [d1, d2] }
  | _ => none }
def ClosureTrueWrongFalsely : Prop := closureTrueRow.holds Try.pinned (OpenSpec.ofChange closureTrueWrong)

/-- 'almonrylaw16.ClosureOrder': WHATEVER THE INPUT: true; the input reads as it did. -/
def closureOrderSpec : ChangeSpec := { name := "closureOrder", fn := fun _ => fun
  | [d1, d2, d3] => { results := [.lit (.bool true)], args := [d1, d2, d3] }
  | _ => none }
def closureOrderRow : OpenClaim := { program := "ytnoooeeciebhfaa", sum := "d897c4dbe34ea7e92759c5b1e1a459eb0d4a7dfd6acee63474a105a853def0b1", func := "almonry/almonrylaw16.ClosureOrder", spec := "closureOrder", unfollowed := true, recurses := true, apart := false }
def ClosureOrderSaid : Prop := closureOrderRow.holds Try.pinned (OpenSpec.ofChange closureOrderSpec)

/-- ITS FALSE NEIGHBOUR: 'it returns false'. Refute it at one input. -/
def closureOrderWrong : ChangeSpec := { name := "closureOrder", fn := fun _ => fun
  | [d1, d2, d3] => { results := [.lit (.bool false)], args := [d1, d2, d3] }
  | _ => none }
def ClosureOrderWrongFalsely : Prop := closureOrderRow.holds Try.pinned (OpenSpec.ofChange closureOrderWrong)

/- THE SECOND FORM. 'bulk': how many values and letters a reading holds, each counted each time it is reached (what is shared counts as often as it is met; a slice's spare places count too). A statement '..UptoSaid' is the law's where the arguments, and the package variables that the reading takes, are together of bulk at most 1048576: NARROWER than '..Said'. Prove '..Said' where nothing that the law and all that it calls make is longer than what came in: it says more and counts as full. Else prove '..UptoSaid'. A law counts once. -/
mutual
def uptoBulk {H : Type} : DataW H → Nat
  | .lit (.string bytes) => bytes.length + 1
  | .lit _ => 1
  | .nil => 1
  | .ptr d => uptoBulk d + 1
  | .slice elems spare => uptoBulkAll elems + uptoBulkAll spare + 1
  | .agg parts => uptoBulkAll parts + 1
  | .iface _ d => uptoBulk d + 1
  | .map entries => uptoBulkEntries entries + 1
  | .held _ => 1
def uptoBulkAll {H : Type} : List (DataW H) → Nat
  | [] => 0
  | d :: r => uptoBulk d + uptoBulkAll r
def uptoBulkEntries {H : Type} : List (Lit × DataW H) → Nat
  | [] => 0
  | x :: r => uptoBulkEntry x + uptoBulkEntries r
def uptoBulkEntry {H : Type} : Lit × DataW H → Nat
  | (.string bytes, d) => bytes.length + uptoBulk d + 1
  | (_, d) => uptoBulk d + 1
 end
def uptoSmall : (H : Type) → List (DataW H) → Bool := fun _ ds => decide (uptoBulkAll ds ≤ 1048576)
def OpenSpec.upto (s : _root_.Go.ChangeSpec) : _root_.Go.OpenSpec := { _root_.Go.OpenSpec.ofChange s with cond := some uptoSmall }

/-- 'almonrylaw19.EdgesEmpty', WHERE WHAT IT READS IS OF BULK AT MOST 1048576: true; the input reads as it did. -/
def edgesEmptyUptoRow : OpenClaim := { program := "ytnoooeeciebhfaa", sum := "d897c4dbe34ea7e92759c5b1e1a459eb0d4a7dfd6acee63474a105a853def0b1", func := "almonry/almonrylaw19.EdgesEmpty", spec := "edgesEmpty", recurses := true, apart := false, narrowed := true }
def EdgesEmptyUptoSaid : Prop := edgesEmptyUptoRow.holds Try.pinned (OpenSpec.upto edgesEmptySpec)

/-- 'almonrylaw19.EdgesBoth', WHERE WHAT IT READS IS OF BULK AT MOST 1048576: true; the input reads as it did. -/
def edgesBothUptoRow : OpenClaim := { program := "ytnoooeeciebhfaa", sum := "d897c4dbe34ea7e92759c5b1e1a459eb0d4a7dfd6acee63474a105a853def0b1", func := "almonry/almonrylaw19.EdgesBoth", spec := "edgesBoth", recurses := true, apart := false, narrowed := true }
def EdgesBothUptoSaid : Prop := edgesBothUptoRow.holds Try.pinned (OpenSpec.upto edgesBothSpec)

/-- 'almonrylaw19.EdgesDo', WHERE WHAT IT READS IS OF BULK AT MOST 1048576: true; the input reads as it did. -/
def edgesDoUptoRow : OpenClaim := { program := "ytnoooeeciebhfaa", sum := "d897c4dbe34ea7e92759c5b1e1a459eb0d4a7dfd6acee63474a105a853def0b1", func := "almonry/almonrylaw19.EdgesDo", spec := "edgesDo", recurses := true, apart := false, narrowed := true }
def EdgesDoUptoSaid : Prop := edgesDoUptoRow.holds Try.pinned (OpenSpec.upto edgesDoSpec)

/-- 'almonrylaw16.ClosureReaches', WHERE WHAT IT READS IS OF BULK AT MOST 1048576: true; the input reads as it did. -/
def closureReachesUptoRow : OpenClaim := { program := "ytnoooeeciebhfaa", sum := "d897c4dbe34ea7e92759c5b1e1a459eb0d4a7dfd6acee63474a105a853def0b1", func := "almonry/almonrylaw16.ClosureReaches", spec := "closureReaches", unfollowed := true, recurses := true, apart := false, narrowed := true }
def ClosureReachesUptoSaid : Prop := closureReachesUptoRow.holds Try.pinned (OpenSpec.upto closureReachesSpec)

/-- 'almonrylaw16.ClosureAgrees', WHERE WHAT IT READS IS OF BULK AT MOST 1048576: true; the input reads as it did. -/
def closureAgreesUptoRow : OpenClaim := { program := "ytnoooeeciebhfaa", sum := "d897c4dbe34ea7e92759c5b1e1a459eb0d4a7dfd6acee63474a105a853def0b1", func := "almonry/almonrylaw16.ClosureAgrees", spec := "closureAgrees", unfollowed := true, recurses := true, apart := false, narrowed := true }
def ClosureAgreesUptoSaid : Prop := closureAgreesUptoRow.holds Try.pinned (OpenSpec.upto closureAgreesSpec)

/-- 'almonrylaw16.ClosureTrue', WHERE WHAT IT READS IS OF BULK AT MOST 1048576: true; the input reads as it did. -/
def closureTrueUptoRow : OpenClaim := { program := "ytnoooeeciebhfaa", sum := "d897c4dbe34ea7e92759c5b1e1a459eb0d4a7dfd6acee63474a105a853def0b1", func := "almonry/almonrylaw16.ClosureTrue", spec := "closureTrue", unfollowed := true, recurses := true, apart := false, narrowed := true }
def ClosureTrueUptoSaid : Prop := closureTrueUptoRow.holds Try.pinned (OpenSpec.upto closureTrueSpec)

/-- 'almonrylaw16.ClosureOrder', WHERE WHAT IT READS IS OF BULK AT MOST 1048576: true; the input reads as it did. -/
def closureOrderUptoRow : OpenClaim := { program := "ytnoooeeciebhfaa", sum := "d897c4dbe34ea7e92759c5b1e1a459eb0d4a7dfd6acee63474a105a853def0b1", func := "almonry/almonrylaw16.ClosureOrder", spec := "closureOrder", unfollowed := true, recurses := true, apart := false, narrowed := true }
def ClosureOrderUptoSaid : Prop := closureOrderUptoRow.holds Try.pinned (OpenSpec.upto closureOrderSpec)

end Rows
end Go.Proofs.Ytnoooeeciebhfaa
