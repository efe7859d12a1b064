/-
  No cell of these rows narrows 'for every input' (looked for: loops, veiled, ifaces, maps, wideKeys, modest, calm, conditions, laid).
  DERIVED. THE GIVEN ROWS OF THIS SEAT. 8 by the template 'for every input the law returns true; each argument reads behind the call as it read before'; 0 by the template 'total and deterministic' (their statements: YtpkkaicpbihjfaaTotals.lean).
  GIVEN WITH THE SEED: the statements are not yours to turn. If you find one false, say at which input.
  Laid BY PROGRAM, IN A SANDBOX (cutbox-rows.mjs): the forced cells as the released guide's own fill.sh prints them over the translation 744f61fe7fa3f191… (all of the seat's roots in one cut). By AI agents, Wed Nov 11 2026. No macro, syntax, notation, axiom, sorry.
-/
import Derived.Test.YtpkkaicpbihjfaaChecked
import GoSem.Claim
import GoSem.ClaimJoined
import GoSem.ClaimMapViews
import Derived.JoinedTies
import Derived.KernelRfl
namespace Go.Proofs.Ytpkkaicpbihjfaa
/- THE CELL 'sum', in the pinned program and in every row, IS THE sha256 OF THE DUMP (.gsa) THAT YtpkkaicpbihjfaaProg.lean LOADS. Nothing in Lean hashes anything: it is a label: what it is worth is what the hold of that sum in a sandbox is worth. -/
noncomputable def Try.pinned : Pinned := { name := "ytpkkaicpbihjfaa", sum := "744f61fe7fa3f19163251070badd4ecba45b54390355ea2bf21cc14944bfc27c", checked := Try.checked }
namespace Rows
def none {H : Type} : Left H := { results := [], args := [] }

/-- 'almonrylaw13.ComposeRight': WHATEVER THE INPUT: true; the input reads as it did. -/
def composeRightSpec : ChangeSpec := { name := "composeRight", fn := fun _ => fun
  | [d] => { results := [.lit (.bool true)], args := [d] }
  | _ => none }
def composeRightRow : OpenClaim := { program := "ytpkkaicpbihjfaa", sum := "744f61fe7fa3f19163251070badd4ecba45b54390355ea2bf21cc14944bfc27c", func := "almonry/almonrylaw13.ComposeRight", spec := "composeRight", recurses := true, apart := false }
def ComposeRightSaid : Prop := composeRightRow.holds Try.pinned (OpenSpec.ofChange composeRightSpec)

/-- ITS FALSE NEIGHBOUR: 'it returns false'. Refute it at one input. -/
def composeRightWrong : ChangeSpec := { name := "composeRight", fn := fun _ => fun
  | [d] => { results := [.lit (.bool false)], args := [d] }
  | _ => none }
def ComposeRightWrongFalsely : Prop := composeRightRow.holds Try.pinned (OpenSpec.ofChange composeRightWrong)

/-- 'almonrylaw13.ComposeAdds': WHATEVER THE INPUT: true; the input reads as it did. -/
def composeAddsSpec : ChangeSpec := { name := "composeAdds", fn := fun _ => fun
  | [d1, d2, d3] => { results := [.lit (.bool true)], args := [d1, d2, d3] }
  | _ => none }
def composeAddsRow : OpenClaim := { program := "ytpkkaicpbihjfaa", sum := "744f61fe7fa3f19163251070badd4ecba45b54390355ea2bf21cc14944bfc27c", func := "almonry/almonrylaw13.ComposeAdds", spec := "composeAdds", recurses := true, apart := false }
def ComposeAddsSaid : Prop := composeAddsRow.holds Try.pinned (OpenSpec.ofChange composeAddsSpec)

/-- ITS FALSE NEIGHBOUR: 'it returns false'. Refute it at one input. -/
def composeAddsWrong : ChangeSpec := { name := "composeAdds", fn := fun _ => fun
  | [d1, d2, d3] => { results := [.lit (.bool false)], args := [d1, d2, d3] }
  | _ => none }
def ComposeAddsWrongFalsely : Prop := composeAddsRow.holds Try.pinned (OpenSpec.ofChange composeAddsWrong)

/-- 'almonrylaw14.EmitFrames': WHATEVER THE INPUT: true; the input reads as it did. -/
def emitFramesSpec : ChangeSpec := { name := "emitFrames", fn := fun _ => fun
  | [d] => { results := [.lit (.bool true)], args := [d] }
  | _ => none }
def emitFramesRow : OpenClaim := { program := "ytpkkaicpbihjfaa", sum := "744f61fe7fa3f19163251070badd4ecba45b54390355ea2bf21cc14944bfc27c", func := "almonry/almonrylaw14.EmitFrames", spec := "emitFrames", unfollowed := true, recurses := true, named := ["math/bits.divideError", "math/bits.overflowError"], apart := false }
def EmitFramesSaid : Prop := emitFramesRow.holds Try.pinned (OpenSpec.ofChange emitFramesSpec)

/-- ITS FALSE NEIGHBOUR: 'it returns false'. Refute it at one input. -/
def emitFramesWrong : ChangeSpec := { name := "emitFrames", fn := fun _ => fun
  | [d] => { results := [.lit (.bool false)], args := [d] }
  | _ => none }
def EmitFramesWrongFalsely : Prop := emitFramesRow.holds Try.pinned (OpenSpec.ofChange emitFramesWrong)

/-- 'almonrylaw14.EmitBlocks': WHATEVER THE INPUT: true; the input reads as it did. -/
def emitBlocksSpec : ChangeSpec := { name := "emitBlocks", fn := fun _ => fun
  | [d1, d2] => { results := [.lit (.bool true)], args := [d1, d2] }
  | _ => none }
def emitBlocksRow : OpenClaim := { program := "ytpkkaicpbihjfaa", sum := "744f61fe7fa3f19163251070badd4ecba45b54390355ea2bf21cc14944bfc27c", func := "almonry/almonrylaw14.EmitBlocks", spec := "emitBlocks", unfollowed := true, recurses := true, named := ["math/bits.divideError", "math/bits.overflowError"], apart := false }
def EmitBlocksSaid : Prop := emitBlocksRow.holds Try.pinned (OpenSpec.ofChange emitBlocksSpec)

/-- ITS FALSE NEIGHBOUR: 'it returns false'. Refute it at one input. -/
def emitBlocksWrong : ChangeSpec := { name := "emitBlocks", fn := fun _ => fun
  | [d1, d2] => { results := [.lit (.bool false)], args := [d1, d2] }
  | _ => none }
def EmitBlocksWrongFalsely : Prop := emitBlocksRow.holds Try.pinned (OpenSpec.ofChange emitBlocksWrong)

/-- 'almonrylaw14.EmitSums': WHATEVER THE INPUT: true; the input reads as it did. -/
def emitSumsSpec : ChangeSpec := { name := "emitSums", fn := fun _ => fun
  | [d] => { results := [.lit (.bool true)], args := [d] }
  | _ => none }
def emitSumsRow : OpenClaim := { program := "ytpkkaicpbihjfaa", sum := "744f61fe7fa3f19163251070badd4ecba45b54390355ea2bf21cc14944bfc27c", func := "almonry/almonrylaw14.EmitSums", spec := "emitSums", unfollowed := true, recurses := true, named := ["math/bits.divideError", "math/bits.overflowError"], apart := false }
def EmitSumsSaid : Prop := emitSumsRow.holds Try.pinned (OpenSpec.ofChange emitSumsSpec)

/-- ITS FALSE NEIGHBOUR: 'it returns false'. Refute it at one input. -/
def emitSumsWrong : ChangeSpec := { name := "emitSums", fn := fun _ => fun
  | [d] => { results := [.lit (.bool false)], args := [d] }
  | _ => none }
def EmitSumsWrongFalsely : Prop := emitSumsRow.holds Try.pinned (OpenSpec.ofChange emitSumsWrong)

/-- 'almonrylaw14.EmitAdds': WHATEVER THE INPUT: true; the input reads as it did. -/
def emitAddsSpec : ChangeSpec := { name := "emitAdds", fn := fun _ => fun
  | [d1, d2] => { results := [.lit (.bool true)], args := [d1, d2] }
  | _ => none }
def emitAddsRow : OpenClaim := { program := "ytpkkaicpbihjfaa", sum := "744f61fe7fa3f19163251070badd4ecba45b54390355ea2bf21cc14944bfc27c", func := "almonry/almonrylaw14.EmitAdds", spec := "emitAdds", unfollowed := true, recurses := true, named := ["math/bits.divideError", "math/bits.overflowError"], apart := false }
def EmitAddsSaid : Prop := emitAddsRow.holds Try.pinned (OpenSpec.ofChange emitAddsSpec)

/-- ITS FALSE NEIGHBOUR: 'it returns false'. Refute it at one input. -/
def emitAddsWrong : ChangeSpec := { name := "emitAdds", fn := fun _ => fun
  | [d1, d2] => { results := [.lit (.bool false)], args := [d1, d2] }
  | _ => none }
def EmitAddsWrongFalsely : Prop := emitAddsRow.holds Try.pinned (OpenSpec.ofChange emitAddsWrong)

/-- 'almonrytop.WholePackets': WHATEVER THE INPUT: true; the input reads as it did. -/
def wholePacketsSpec : ChangeSpec := { name := "wholePackets", fn := fun _ => fun
  | [d] => { results := [.lit (.bool true)], args := [d] }
  | _ => none }
def wholePacketsRow : OpenClaim := { program := "ytpkkaicpbihjfaa", sum := "744f61fe7fa3f19163251070badd4ecba45b54390355ea2bf21cc14944bfc27c", func := "almonry/almonrytop.WholePackets", spec := "wholePackets", unfollowed := true, recurses := true, named := ["math/bits.divideError", "math/bits.overflowError"], apart := false }
def WholePacketsSaid : Prop := wholePacketsRow.holds Try.pinned (OpenSpec.ofChange wholePacketsSpec)

/-- ITS FALSE NEIGHBOUR: 'it returns false'. Refute it at one input. -/
def wholePacketsWrong : ChangeSpec := { name := "wholePackets", fn := fun _ => fun
  | [d] => { results := [.lit (.bool false)], args := [d] }
  | _ => none }
def WholePacketsWrongFalsely : Prop := wholePacketsRow.holds Try.pinned (OpenSpec.ofChange wholePacketsWrong)

/-- 'almonrytop.WholeEquations': WHATEVER THE INPUT: true; the input reads as it did. -/
def wholeEquationsSpec : ChangeSpec := { name := "wholeEquations", fn := fun _ => fun
  | [d] => { results := [.lit (.bool true)], args := [d] }
  | _ => none }
def wholeEquationsRow : OpenClaim := { program := "ytpkkaicpbihjfaa", sum := "744f61fe7fa3f19163251070badd4ecba45b54390355ea2bf21cc14944bfc27c", func := "almonry/almonrytop.WholeEquations", spec := "wholeEquations", unfollowed := true, recurses := true, named := ["math/bits.divideError", "math/bits.overflowError"], apart := false }
def WholeEquationsSaid : Prop := wholeEquationsRow.holds Try.pinned (OpenSpec.ofChange wholeEquationsSpec)

/-- ITS FALSE NEIGHBOUR: 'it returns false'. Refute it at one input. -/
def wholeEquationsWrong : ChangeSpec := { name := "wholeEquations", fn := fun _ => fun
  | [d] => { results := [.lit (.bool false)], args := [d] }
  | _ => none }
def WholeEquationsWrongFalsely : Prop := wholeEquationsRow.holds Try.pinned (OpenSpec.ofChange wholeEquationsWrong)

/- THE SECOND FORM. 'bulk': how many values and letters a reading holds, each counted each time it is reached (what is shared counts as often as it is met; a slice's spare places count too). A statement '..UptoSaid' is the law's where the arguments, and the package variables that the reading takes, are together of bulk at most 1048576: NARROWER than '..Said'. Prove '..Said' where nothing that the law and all that it calls make is longer than what came in: it says more and counts as full. Else prove '..UptoSaid'. A law counts once. -/
mutual
def uptoBulk {H : Type} : DataW H → Nat
  | .lit (.string bytes) => bytes.length + 1
  | .lit _ => 1
  | .nil => 1
  | .ptr d => uptoBulk d + 1
  | .slice elems spare => uptoBulkAll elems + uptoBulkAll spare + 1
  | .agg parts => uptoBulkAll parts + 1
  | .iface _ d => uptoBulk d + 1
  | .map entries => uptoBulkEntries entries + 1
  | .held _ => 1
def uptoBulkAll {H : Type} : List (DataW H) → Nat
  | [] => 0
  | d :: r => uptoBulk d + uptoBulkAll r
def uptoBulkEntries {H : Type} : List (Lit × DataW H) → Nat
  | [] => 0
  | x :: r => uptoBulkEntry x + uptoBulkEntries r
def uptoBulkEntry {H : Type} : Lit × DataW H → Nat
  | (.string bytes, d) => bytes.length + uptoBulk d + 1
  | (_, d) => uptoBulk d + 1
 end
def uptoSmall : (H : Type) → List (DataW H) → Bool := fun _ ds => decide (uptoBulkAll ds ≤ 1048576)
def OpenSpec.upto (s : _root_.Go.ChangeSpec) : _root_.Go.OpenSpec := { _root_.Go.OpenSpec.ofChange s with cond := some uptoSmall }

/-- 'almonrylaw13.ComposeRight', WHERE WHAT IT READS IS OF BULK AT MOST 1048576: true; the input reads as it did. -/
def composeRightUptoRow : OpenClaim := { program := "ytpkkaicpbihjfaa", sum := "744f61fe7fa3f19163251070badd4ecba45b54390355ea2bf21cc14944bfc27c", func := "almonry/almonrylaw13.ComposeRight", spec := "composeRight", recurses := true, apart := false, narrowed := true }
def ComposeRightUptoSaid : Prop := composeRightUptoRow.holds Try.pinned (OpenSpec.upto composeRightSpec)

/-- 'almonrylaw13.ComposeAdds', WHERE WHAT IT READS IS OF BULK AT MOST 1048576: true; the input reads as it did. -/
def composeAddsUptoRow : OpenClaim := { program := "ytpkkaicpbihjfaa", sum := "744f61fe7fa3f19163251070badd4ecba45b54390355ea2bf21cc14944bfc27c", func := "almonry/almonrylaw13.ComposeAdds", spec := "composeAdds", recurses := true, apart := false, narrowed := true }
def ComposeAddsUptoSaid : Prop := composeAddsUptoRow.holds Try.pinned (OpenSpec.upto composeAddsSpec)

/-- 'almonrylaw14.EmitFrames', WHERE WHAT IT READS IS OF BULK AT MOST 1048576: true; the input reads as it did. -/
def emitFramesUptoRow : OpenClaim := { program := "ytpkkaicpbihjfaa", sum := "744f61fe7fa3f19163251070badd4ecba45b54390355ea2bf21cc14944bfc27c", func := "almonry/almonrylaw14.EmitFrames", spec := "emitFrames", unfollowed := true, recurses := true, named := ["math/bits.divideError", "math/bits.overflowError"], apart := false, narrowed := true }
def EmitFramesUptoSaid : Prop := emitFramesUptoRow.holds Try.pinned (OpenSpec.upto emitFramesSpec)

/-- 'almonrylaw14.EmitBlocks', WHERE WHAT IT READS IS OF BULK AT MOST 1048576: true; the input reads as it did. -/
def emitBlocksUptoRow : OpenClaim := { program := "ytpkkaicpbihjfaa", sum := "744f61fe7fa3f19163251070badd4ecba45b54390355ea2bf21cc14944bfc27c", func := "almonry/almonrylaw14.EmitBlocks", spec := "emitBlocks", unfollowed := true, recurses := true, named := ["math/bits.divideError", "math/bits.overflowError"], apart := false, narrowed := true }
def EmitBlocksUptoSaid : Prop := emitBlocksUptoRow.holds Try.pinned (OpenSpec.upto emitBlocksSpec)

/-- 'almonrylaw14.EmitSums', WHERE WHAT IT READS IS OF BULK AT MOST 1048576: true; the input reads as it did. -/
def emitSumsUptoRow : OpenClaim := { program := "ytpkkaicpbihjfaa", sum := "744f61fe7fa3f19163251070badd4ecba45b54390355ea2bf21cc14944bfc27c", func := "almonry/almonrylaw14.EmitSums", spec := "emitSums", unfollowed := true, recurses := true, named := ["math/bits.divideError", "math/bits.overflowError"], apart := false, narrowed := true }
def EmitSumsUptoSaid : Prop := emitSumsUptoRow.holds Try.pinned (OpenSpec.upto emitSumsSpec)

/-- 'almonrylaw14.EmitAdds', WHERE WHAT IT READS IS OF BULK AT MOST 1048576: true; the input reads as it did. -/
def emitAddsUptoRow : OpenClaim := { program := "ytpkkaicpbihjfaa", sum := "744f61fe7fa3f19163251070badd4ecba45b54390355ea2bf21cc14944bfc27c", func := "almonry/almonrylaw14.EmitAdds", spec := "emitAdds", unfollowed := true, recurses := true, named := ["math/bits.divideError", "math/bits.overflowError"], apart := false, narrowed := true }
def EmitAddsUptoSaid : Prop := emitAddsUptoRow.holds Try.pinned (OpenSpec.upto emitAddsSpec)

/-- 'almonrytop.WholePackets', WHERE WHAT IT READS IS OF BULK AT MOST 1048576: true; the input reads as it did. -/
def wholePacketsUptoRow : OpenClaim := { program := "ytpkkaicpbihjfaa", sum := "744f61fe7fa3f19163251070badd4ecba45b54390355ea2bf21cc14944bfc27c", func := "almonry/almonrytop.WholePackets", spec := "wholePackets", unfollowed := true, recurses := true, named := ["math/bits.divideError", "math/bits.overflowError"], apart := false, narrowed := true }
def WholePacketsUptoSaid : Prop := wholePacketsUptoRow.holds Try.pinned (OpenSpec.upto wholePacketsSpec)

/-- 'almonrytop.WholeEquations', WHERE WHAT IT READS IS OF BULK AT MOST 1048576: true; the input reads as it did. -/
def wholeEquationsUptoRow : OpenClaim := { program := "ytpkkaicpbihjfaa", sum := "744f61fe7fa3f19163251070badd4ecba45b54390355ea2bf21cc14944bfc27c", func := "almonry/almonrytop.WholeEquations", spec := "wholeEquations", unfollowed := true, recurses := true, named := ["math/bits.divideError", "math/bits.overflowError"], apart := false, narrowed := true }
def WholeEquationsUptoSaid : Prop := wholeEquationsUptoRow.holds Try.pinned (OpenSpec.upto wholeEquationsSpec)

end Rows
end Go.Proofs.Ytpkkaicpbihjfaa
