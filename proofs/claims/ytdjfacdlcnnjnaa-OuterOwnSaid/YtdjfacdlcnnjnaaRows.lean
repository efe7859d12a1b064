/-
  No cell of these rows narrows 'for every input' (looked for: loops, veiled, ifaces, maps, wideKeys, modest, calm, conditions, laid).
  DERIVED. THE GIVEN ROWS OF THIS SEAT. 10 by the template 'for every input the law returns true; each argument reads behind the call as it read before'; 0 by the template 'total and deterministic' (their statements: YtdjfacdlcnnjnaaTotals.lean).
  GIVEN WITH THE SEED: the statements are not yours to turn. If you find one false, say at which input.
  Laid BY PROGRAM, IN A SANDBOX (cutbox-rows.mjs): the forced cells as the released guide's own fill.sh prints them over the translation 1e7d3e8b063d6387… (all of the seat's roots in one cut). By AI agents, Wed Nov 11 2026. No macro, syntax, notation, axiom, sorry.
-/
import Derived.Test.YtdjfacdlcnnjnaaChecked
import GoSem.Claim
import GoSem.ClaimJoined
import GoSem.ClaimMapViews
import Derived.JoinedTies
import Derived.KernelRfl
namespace Go.Proofs.Ytdjfacdlcnnjnaa
/- THE CELL 'sum', in the pinned program and in every row, IS THE sha256 OF THE DUMP (.gsa) THAT YtdjfacdlcnnjnaaProg.lean LOADS. Nothing in Lean hashes anything: it is a label: what it is worth is what the hold of that sum in a sandbox is worth. -/
noncomputable def Try.pinned : Pinned := { name := "ytdjfacdlcnnjnaa", sum := "1e7d3e8b063d638737fa8f4ae02e0a29f262bbae0cd1cbeade3a84c812dcea4a", checked := Try.checked }
namespace Rows
def none {H : Type} : Left H := { results := [], args := [] }

/-- 'almonrylaw19.EdgesEmpty': WHATEVER THE INPUT: true; the input reads as it did. -/
def edgesEmptySpec : ChangeSpec := { name := "edgesEmpty", fn := fun _ => fun
  | [d1, d2] => { results := [.lit (.bool true)], args := [d1, d2] }
  | _ => none }
def edgesEmptyRow : OpenClaim := { program := "ytdjfacdlcnnjnaa", sum := "1e7d3e8b063d638737fa8f4ae02e0a29f262bbae0cd1cbeade3a84c812dcea4a", func := "almonry/almonrylaw19.EdgesEmpty", spec := "edgesEmpty", recurses := true, plainKeys := false, apart := false }
def EdgesEmptySaid : Prop := edgesEmptyRow.holds Try.pinned (OpenSpec.ofChange edgesEmptySpec)

/-- ITS FALSE NEIGHBOUR: 'it returns false'. Refute it at one input. -/
def edgesEmptyWrong : ChangeSpec := { name := "edgesEmpty", fn := fun _ => fun
  | [d1, d2] => { results := [.lit (.bool false)], args := [d1, d2] }
  | _ => none }
def EdgesEmptyWrongFalsely : Prop := edgesEmptyRow.holds Try.pinned (OpenSpec.ofChange edgesEmptyWrong)

/-- 'almonrylaw19.EdgesBoth': WHATEVER THE INPUT: true; the input reads as it did. -/
def edgesBothSpec : ChangeSpec := { name := "edgesBoth", fn := fun _ => fun
  | [d] => { results := [.lit (.bool true)], args := [d] }
  | _ => none }
def edgesBothRow : OpenClaim := { program := "ytdjfacdlcnnjnaa", sum := "1e7d3e8b063d638737fa8f4ae02e0a29f262bbae0cd1cbeade3a84c812dcea4a", func := "almonry/almonrylaw19.EdgesBoth", spec := "edgesBoth", recurses := true, plainKeys := false, apart := false }
def EdgesBothSaid : Prop := edgesBothRow.holds Try.pinned (OpenSpec.ofChange edgesBothSpec)

/-- ITS FALSE NEIGHBOUR: 'it returns false'. Refute it at one input. -/
def edgesBothWrong : ChangeSpec := { name := "edgesBoth", fn := fun _ => fun
  | [d] => { results := [.lit (.bool false)], args := [d] }
  | _ => none }
def EdgesBothWrongFalsely : Prop := edgesBothRow.holds Try.pinned (OpenSpec.ofChange edgesBothWrong)

/-- 'almonrylaw19.EdgesDo': WHATEVER THE INPUT: true; the input reads as it did. -/
def edgesDoSpec : ChangeSpec := { name := "edgesDo", fn := fun _ => fun
  | [d1, d2] => { results := [.lit (.bool true)], args := [d1, d2] }
  | _ => none }
def edgesDoRow : OpenClaim := { program := "ytdjfacdlcnnjnaa", sum := "1e7d3e8b063d638737fa8f4ae02e0a29f262bbae0cd1cbeade3a84c812dcea4a", func := "almonry/almonrylaw19.EdgesDo", spec := "edgesDo", recurses := true, plainKeys := false, apart := false }
def EdgesDoSaid : Prop := edgesDoRow.holds Try.pinned (OpenSpec.ofChange edgesDoSpec)

/-- ITS FALSE NEIGHBOUR: 'it returns false'. Refute it at one input. -/
def edgesDoWrong : ChangeSpec := { name := "edgesDo", fn := fun _ => fun
  | [d1, d2] => { results := [.lit (.bool false)], args := [d1, d2] }
  | _ => none }
def EdgesDoWrongFalsely : Prop := edgesDoRow.holds Try.pinned (OpenSpec.ofChange edgesDoWrong)

/-- 'almonrylaw09.SampleDraws': WHATEVER THE INPUT: true; the input reads as it did. -/
def sampleDrawsSpec : ChangeSpec := { name := "sampleDraws", fn := fun _ => fun
  | [d1, d2, d3] => { results := [.lit (.bool true)], args := [d1, d2, d3] }
  | _ => none }
def sampleDrawsRow : OpenClaim := { program := "ytdjfacdlcnnjnaa", sum := "1e7d3e8b063d638737fa8f4ae02e0a29f262bbae0cd1cbeade3a84c812dcea4a", func := "almonry/almonrylaw09.SampleDraws", spec := "sampleDraws", recurses := true, plainKeys := false, apart := false }
def SampleDrawsSaid : Prop := sampleDrawsRow.holds Try.pinned (OpenSpec.ofChange sampleDrawsSpec)

/-- ITS FALSE NEIGHBOUR: 'it returns false'. Refute it at one input. -/
def sampleDrawsWrong : ChangeSpec := { name := "sampleDraws", fn := fun _ => fun
  | [d1, d2, d3] => { results := [.lit (.bool false)], args := [d1, d2, d3] }
  | _ => none }
def SampleDrawsWrongFalsely : Prop := sampleDrawsRow.holds Try.pinned (OpenSpec.ofChange sampleDrawsWrong)

/-- 'almonrylaw09.SampleApart': WHATEVER THE INPUT: true; the input reads as it did. -/
def sampleApartSpec : ChangeSpec := { name := "sampleApart", fn := fun _ => fun
  | [d] => { results := [.lit (.bool true)], args := [d] }
  | _ => none }
def sampleApartRow : OpenClaim := { program := "ytdjfacdlcnnjnaa", sum := "1e7d3e8b063d638737fa8f4ae02e0a29f262bbae0cd1cbeade3a84c812dcea4a", func := "almonry/almonrylaw09.SampleApart", spec := "sampleApart", recurses := true, plainKeys := false, apart := false }
def SampleApartSaid : Prop := sampleApartRow.holds Try.pinned (OpenSpec.ofChange sampleApartSpec)

/-- ITS FALSE NEIGHBOUR: 'it returns false'. Refute it at one input. -/
def sampleApartWrong : ChangeSpec := { name := "sampleApart", fn := fun _ => fun
  | [d] => { results := [.lit (.bool false)], args := [d] }
  | _ => none }
def SampleApartWrongFalsely : Prop := sampleApartRow.holds Try.pinned (OpenSpec.ofChange sampleApartWrong)

/-- 'almonrylaw09.SampleAll': WHATEVER THE INPUT: true; the input reads as it did. -/
def sampleAllSpec : ChangeSpec := { name := "sampleAll", fn := fun _ => fun
  | [d1, d2] => { results := [.lit (.bool true)], args := [d1, d2] }
  | _ => none }
def sampleAllRow : OpenClaim := { program := "ytdjfacdlcnnjnaa", sum := "1e7d3e8b063d638737fa8f4ae02e0a29f262bbae0cd1cbeade3a84c812dcea4a", func := "almonry/almonrylaw09.SampleAll", spec := "sampleAll", recurses := true, plainKeys := false, apart := false }
def SampleAllSaid : Prop := sampleAllRow.holds Try.pinned (OpenSpec.ofChange sampleAllSpec)

/-- ITS FALSE NEIGHBOUR: 'it returns false'. Refute it at one input. -/
def sampleAllWrong : ChangeSpec := { name := "sampleAll", fn := fun _ => fun
  | [d1, d2] => { results := [.lit (.bool false)], args := [d1, d2] }
  | _ => none }
def SampleAllWrongFalsely : Prop := sampleAllRow.holds Try.pinned (OpenSpec.ofChange sampleAllWrong)

/-- 'almonrylaw10.OuterDraws': WHATEVER THE INPUT: true; the input reads as it did. -/
def outerDrawsSpec : ChangeSpec := { name := "outerDraws", fn := fun _ => fun
  | [d1, d2, d3] => { results := [.lit (.bool true)], args := [d1, d2, d3] }
  | _ => none }
def outerDrawsRow : OpenClaim := { program := "ytdjfacdlcnnjnaa", sum := "1e7d3e8b063d638737fa8f4ae02e0a29f262bbae0cd1cbeade3a84c812dcea4a", func := "almonry/almonrylaw10.OuterDraws", spec := "outerDraws", recurses := true, plainKeys := false, apart := false }
def OuterDrawsSaid : Prop := outerDrawsRow.holds Try.pinned (OpenSpec.ofChange outerDrawsSpec)

/-- ITS FALSE NEIGHBOUR: 'it returns false'. Refute it at one input. -/
def outerDrawsWrong : ChangeSpec := { name := "outerDraws", fn := fun _ => fun
  | [d1, d2, d3] => { results := [.lit (.bool false)], args := [d1, d2, d3] }
  | _ => none }
def OuterDrawsWrongFalsely : Prop := outerDrawsRow.holds Try.pinned (OpenSpec.ofChange outerDrawsWrong)

/-- 'almonrylaw10.OuterEach': WHATEVER THE INPUT: true; the input reads as it did. -/
def outerEachSpec : ChangeSpec := { name := "outerEach", fn := fun _ => fun
  | [d1, d2] => { results := [.lit (.bool true)], args := [d1, d2] }
  | _ => none }
def outerEachRow : OpenClaim := { program := "ytdjfacdlcnnjnaa", sum := "1e7d3e8b063d638737fa8f4ae02e0a29f262bbae0cd1cbeade3a84c812dcea4a", func := "almonry/almonrylaw10.OuterEach", spec := "outerEach", recurses := true, plainKeys := false, apart := false }
def OuterEachSaid : Prop := outerEachRow.holds Try.pinned (OpenSpec.ofChange outerEachSpec)

/-- ITS FALSE NEIGHBOUR: 'it returns false'. Refute it at one input. -/
def outerEachWrong : ChangeSpec := { name := "outerEach", fn := fun _ => fun
  | [d1, d2] => { results := [.lit (.bool false)], args := [d1, d2] }
  | _ => none }
def OuterEachWrongFalsely : Prop := outerEachRow.holds Try.pinned (OpenSpec.ofChange outerEachWrong)

/-- 'almonrylaw10.OuterOwn': WHATEVER THE INPUT: true; the input reads as it did. -/
def outerOwnSpec : ChangeSpec := { name := "outerOwn", fn := fun _ => fun
  | [d1, d2, d3] => { results := [.lit (.bool true)], args := [d1, d2, d3] }
  | _ => none }
def outerOwnRow : OpenClaim := { program := "ytdjfacdlcnnjnaa", sum := "1e7d3e8b063d638737fa8f4ae02e0a29f262bbae0cd1cbeade3a84c812dcea4a", func := "almonry/almonrylaw10.OuterOwn", spec := "outerOwn", recurses := true, plainKeys := false, apart := false }
def OuterOwnSaid : Prop := outerOwnRow.holds Try.pinned (OpenSpec.ofChange outerOwnSpec)

/-- ITS FALSE NEIGHBOUR: 'it returns false'. Refute it at one input. -/
def outerOwnWrong : ChangeSpec := { name := "outerOwn", fn := fun _ => fun
  | [d1, d2, d3] => { results := [.lit (.bool false)], args := [d1, d2, d3] }
  | _ => none }
def OuterOwnWrongFalsely : Prop := outerOwnRow.holds Try.pinned (OpenSpec.ofChange outerOwnWrong)

/-- 'almonrylaw10.OuterMore': WHATEVER THE INPUT: true; the input reads as it did. -/
def outerMoreSpec : ChangeSpec := { name := "outerMore", fn := fun _ => fun
  | [d1, d2] => { results := [.lit (.bool true)], args := [d1, d2] }
  | _ => none }
def outerMoreRow : OpenClaim := { program := "ytdjfacdlcnnjnaa", sum := "1e7d3e8b063d638737fa8f4ae02e0a29f262bbae0cd1cbeade3a84c812dcea4a", func := "almonry/almonrylaw10.OuterMore", spec := "outerMore", recurses := true, plainKeys := false, apart := false }
def OuterMoreSaid : Prop := outerMoreRow.holds Try.pinned (OpenSpec.ofChange outerMoreSpec)

/-- ITS FALSE NEIGHBOUR: 'it returns false'. Refute it at one input. -/
def outerMoreWrong : ChangeSpec := { name := "outerMore", fn := fun _ => fun
  | [d1, d2] => { results := [.lit (.bool false)], args := [d1, d2] }
  | _ => none }
def OuterMoreWrongFalsely : Prop := outerMoreRow.holds Try.pinned (OpenSpec.ofChange outerMoreWrong)

/- THE SECOND FORM. 'bulk': how many values and letters a reading holds, each counted each time it is reached (what is shared counts as often as it is met; a slice's spare places count too). A statement '..UptoSaid' is the law's where the arguments, and the package variables that the reading takes, are together of bulk at most 1048576: NARROWER than '..Said'. Prove '..Said' where nothing that the law and all that it calls make is longer than what came in: it says more and counts as full. Else prove '..UptoSaid'. A law counts once. -/
mutual
def uptoBulk {H : Type} : DataW H → Nat
  | .lit (.string bytes) => bytes.length + 1
  | .lit _ => 1
  | .nil => 1
  | .ptr d => uptoBulk d + 1
  | .slice elems spare => uptoBulkAll elems + uptoBulkAll spare + 1
  | .agg parts => uptoBulkAll parts + 1
  | .iface _ d => uptoBulk d + 1
  | .map entries => uptoBulkEntries entries + 1
  | .held _ => 1
def uptoBulkAll {H : Type} : List (DataW H) → Nat
  | [] => 0
  | d :: r => uptoBulk d + uptoBulkAll r
def uptoBulkEntries {H : Type} : List (Lit × DataW H) → Nat
  | [] => 0
  | x :: r => uptoBulkEntry x + uptoBulkEntries r
def uptoBulkEntry {H : Type} : Lit × DataW H → Nat
  | (.string bytes, d) => bytes.length + uptoBulk d + 1
  | (_, d) => uptoBulk d + 1
 end
def uptoSmall : (H : Type) → List (DataW H) → Bool := fun _ ds => decide (uptoBulkAll ds ≤ 1048576)
def OpenSpec.upto (s : _root_.Go.ChangeSpec) : _root_.Go.OpenSpec := { _root_.Go.OpenSpec.ofChange s with cond := some uptoSmall }

/-- 'almonrylaw19.EdgesEmpty', WHERE WHAT IT READS IS OF BULK AT MOST 1048576: true; the input reads as it did. -/
def edgesEmptyUptoRow : OpenClaim := { program := "ytdjfacdlcnnjnaa", sum := "1e7d3e8b063d638737fa8f4ae02e0a29f262bbae0cd1cbeade3a84c812dcea4a", func := "almonry/almonrylaw19.EdgesEmpty", spec := "edgesEmpty", recurses := true, plainKeys := false, apart := false, narrowed := true }
def EdgesEmptyUptoSaid : Prop := edgesEmptyUptoRow.holds Try.pinned (OpenSpec.upto edgesEmptySpec)

/-- 'almonrylaw19.EdgesBoth', WHERE WHAT IT READS IS OF BULK AT MOST 1048576: true; the input reads as it did. -/
def edgesBothUptoRow : OpenClaim := { program := "ytdjfacdlcnnjnaa", sum := "1e7d3e8b063d638737fa8f4ae02e0a29f262bbae0cd1cbeade3a84c812dcea4a", func := "almonry/almonrylaw19.EdgesBoth", spec := "edgesBoth", recurses := true, plainKeys := false, apart := false, narrowed := true }
def EdgesBothUptoSaid : Prop := edgesBothUptoRow.holds Try.pinned (OpenSpec.upto edgesBothSpec)

/-- 'almonrylaw19.EdgesDo', WHERE WHAT IT READS IS OF BULK AT MOST 1048576: true; the input reads as it did. -/
def edgesDoUptoRow : OpenClaim := { program := "ytdjfacdlcnnjnaa", sum := "1e7d3e8b063d638737fa8f4ae02e0a29f262bbae0cd1cbeade3a84c812dcea4a", func := "almonry/almonrylaw19.EdgesDo", spec := "edgesDo", recurses := true, plainKeys := false, apart := false, narrowed := true }
def EdgesDoUptoSaid : Prop := edgesDoUptoRow.holds Try.pinned (OpenSpec.upto edgesDoSpec)

/-- 'almonrylaw09.SampleDraws', WHERE WHAT IT READS IS OF BULK AT MOST 1048576: true; the input reads as it did. -/
def sampleDrawsUptoRow : OpenClaim := { program := "ytdjfacdlcnnjnaa", sum := "1e7d3e8b063d638737fa8f4ae02e0a29f262bbae0cd1cbeade3a84c812dcea4a", func := "almonry/almonrylaw09.SampleDraws", spec := "sampleDraws", recurses := true, plainKeys := false, apart := false, narrowed := true }
def SampleDrawsUptoSaid : Prop := sampleDrawsUptoRow.holds Try.pinned (OpenSpec.upto sampleDrawsSpec)

/-- 'almonrylaw09.SampleApart', WHERE WHAT IT READS IS OF BULK AT MOST 1048576: true; the input reads as it did. -/
def sampleApartUptoRow : OpenClaim := { program := "ytdjfacdlcnnjnaa", sum := "1e7d3e8b063d638737fa8f4ae02e0a29f262bbae0cd1cbeade3a84c812dcea4a", func := "almonry/almonrylaw09.SampleApart", spec := "sampleApart", recurses := true, plainKeys := false, apart := false, narrowed := true }
def SampleApartUptoSaid : Prop := sampleApartUptoRow.holds Try.pinned (OpenSpec.upto sampleApartSpec)

/-- 'almonrylaw09.SampleAll', WHERE WHAT IT READS IS OF BULK AT MOST 1048576: true; the input reads as it did. -/
def sampleAllUptoRow : OpenClaim := { program := "ytdjfacdlcnnjnaa", sum := "1e7d3e8b063d638737fa8f4ae02e0a29f262bbae0cd1cbeade3a84c812dcea4a", func := "almonry/almonrylaw09.SampleAll", spec := "sampleAll", recurses := true, plainKeys := false, apart := false, narrowed := true }
def SampleAllUptoSaid : Prop := sampleAllUptoRow.holds Try.pinned (OpenSpec.upto sampleAllSpec)

/-- 'almonrylaw10.OuterDraws', WHERE WHAT IT READS IS OF BULK AT MOST 1048576: true; the input reads as it did. -/
def outerDrawsUptoRow : OpenClaim := { program := "ytdjfacdlcnnjnaa", sum := "1e7d3e8b063d638737fa8f4ae02e0a29f262bbae0cd1cbeade3a84c812dcea4a", func := "almonry/almonrylaw10.OuterDraws", spec := "outerDraws", recurses := true, plainKeys := false, apart := false, narrowed := true }
def OuterDrawsUptoSaid : Prop := outerDrawsUptoRow.holds Try.pinned (OpenSpec.upto outerDrawsSpec)

/-- 'almonrylaw10.OuterEach', WHERE WHAT IT READS IS OF BULK AT MOST 1048576: true; the input reads as it did. -/
def outerEachUptoRow : OpenClaim := { program := "ytdjfacdlcnnjnaa", sum := "1e7d3e8b063d638737fa8f4ae02e0a29f262bbae0cd1cbeade3a84c812dcea4a", func := "almonry/almonrylaw10.OuterEach", spec := "outerEach", recurses := true, plainKeys := false, apart := false, narrowed := true }
def OuterEachUptoSaid : Prop := outerEachUptoRow.holds Try.pinned (OpenSpec.upto outerEachSpec)

/-- 'almonrylaw10.OuterOwn', WHERE WHAT IT READS IS OF BULK AT MOST 1048576: true; the input reads as it did. -/
def outerOwnUptoRow : OpenClaim := { program := "ytdjfacdlcnnjnaa", sum := "1e7d3e8b063d638737fa8f4ae02e0a29f262bbae0cd1cbeade3a84c812dcea4a", func := "almonry/almonrylaw10.OuterOwn", spec := "outerOwn", recurses := true, plainKeys := false, apart := false, narrowed := true }
def OuterOwnUptoSaid : Prop := outerOwnUptoRow.holds Try.pinned (OpenSpec.upto outerOwnSpec)

/-- 'almonrylaw10.OuterMore', WHERE WHAT IT READS IS OF BULK AT MOST 1048576: true; the input reads as it did. -/
def outerMoreUptoRow : OpenClaim := { program := "ytdjfacdlcnnjnaa", sum := "1e7d3e8b063d638737fa8f4ae02e0a29f262bbae0cd1cbeade3a84c812dcea4a", func := "almonry/almonrylaw10.OuterMore", spec := "outerMore", recurses := true, plainKeys := false, apart := false, narrowed := true }
def OuterMoreUptoSaid : Prop := outerMoreUptoRow.holds Try.pinned (OpenSpec.upto outerMoreSpec)

end Rows
end Go.Proofs.Ytdjfacdlcnnjnaa
