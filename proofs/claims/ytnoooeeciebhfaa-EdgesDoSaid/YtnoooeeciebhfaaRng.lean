/- The draws: the walks of package rng and of its reference. No condition but that numbers are of their kinds. -/
import Derived.Test.YtnoooeeciebhfaaLib
import Derived.Test.YtnoooeeciebhfaaMath
set_option linter.unusedVariables false
namespace Go.Proofs.Ytnoooeeciebhfaa
open Go.RowKit

/-- Numbers of 64 bits that are read. -/
def NatsAt (w : World) (A : Option Addr) (xs : List Nat) : Prop := IntsAt w .u64 A (xs.map (fun n : Nat => (n : Int))) ∧ ∀ x ∈ xs, x < 18446744073709551616
theorem gi_map (xs : List Nat) (j : Nat) (h : j < xs.length) : gi (xs.map (fun n : Nat => (n : Int))) j = ((xs.getD j 0 : Nat) : Int) := by
  simp [gi, h]
theorem seed_take (xs : List Nat) (k : Nat) (h : k < xs.length) : seedN (xs.take (k + 1)) = seedStep (seedN (xs.take k)) (xs.getD k 0) := by
  unfold seedN
  rw [List.take_succ_eq_append_getElem h, List.foldl_append]
  simp [h]
theorem seedN_lt (xs : List Nat) : seedN xs < 18446744073709551616 := by
  rcases Nat.eq_zero_or_pos xs.length with h | h
  · rw [List.length_eq_zero_iff.1 h]; exact Nat.lt_of_lt_of_le (show seedN [] < 1 from Nat.zero_lt_one) (by omega)
  · have := seed_take xs (xs.length - 1) (by omega)
    rw [show xs.length - 1 + 1 = xs.length by omega, List.take_length] at this
    rw [this]; exact seedStep_lt _ _
theorem xorsum_eq (s x : Nat) (hx : x < 18446744073709551616) : bits BinOp.xor IntKind.u64 (IntKind.u64.wrap ((s : Int) + 11400714819323198485)) (x : Int) = ((nxS s ^^^ x : Nat) : Int) := by
  rw [nxS_eq]; exact u64_xor_nat _ _ (nxS_lt s) hx
end Go.Proofs.Ytnoooeeciebhfaa
