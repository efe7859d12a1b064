/- The laws of layer 9: what they speak, and their walks. -/
import Derived.Test.YtpkkaicpbihjfaaSame
set_option linter.unusedVariables false
namespace Go.Proofs.Ytpkkaicpbihjfaa
open Go.RowKit
theorem NatsAt.ofBlock {w : World} {b : Nat} {e : TypeId} {fr : Nat × Nat} (xs : List Nat) (h : w.heap[b]? = some (.cells ((xs.map (fun n : Nat => (n : Int))).map (Value.int .u64)).toArray e fr)) (hl : xs.length ≤ 9223372036854775807) (hx : ∀ x ∈ xs, x < 18446744073709551616) : NatsAt w (some ⟨b, 0, none⟩) xs :=
  ⟨IntsAt.ofBlock _ h (by simpa using hl), hx⟩
theorem someN_none (s : Nat) (below many : Int) (h : many ≤ 0 ∨ below ≤ 0) : someN s below many = [] := by
  apply List.length_eq_zero_iff.1
  rw [someN_length]; unfold cntN; split <;> omega
end Go.Proofs.Ytpkkaicpbihjfaa
