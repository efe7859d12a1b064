/- Frames that are asked for by their IDs are those that come by themselves: the walk of the law SendOrder. Conditions: numbers are of their kinds. -/
import Derived.Test.YtnnkfopopanfjaaGreatLaw23
import Derived.Test.YtnnkfopopanfjaaGreatG3
import Derived.BigQuiet
set_option linter.unusedVariables false
set_option linter.unusedSimpArgs false
namespace Go.Proofs.YtnnkfopopanfjaaGreat
open Go.RowKit
attribute [local go_sem ↓] Go.wp_at_zero Go.wp_at_succ

theorem info_u64s : (Tryz.prog.info? 24).map (fun i => (i.zero, i.size, i.bytes)) = some (some (.int .u64 0), 1, 8) := by kernel_rfl
/-- The IDs from one on. -/
noncomputable def itN (f : Nat) : Nat → Nat
  | 0 => f
  | k + 1 => nxt (itN f k)
theorem itN_lt {f : Nat} (h : f < 18446744073709551616) : ∀ k, itN f k < 18446744073709551616
  | 0 => h
  | k + 1 => nxt_lt _
noncomputable def idsN (f k : Nat) : List Nat := (List.range k).map (itN f)
theorem idsN_succ (f k : Nat) : idsN f (k + 1) = idsN f k ++ [itN f k] := by unfold idsN; rw [List.range_succ, List.map_append]; rfl
theorem idsN_length (f k : Nat) : (idsN f k).length = k := by simp [idsN]
theorem idsN_lt {f : Nat} (h : f < 18446744073709551616) (k : Nat) : ∀ x ∈ idsN f k, x < 18446744073709551616 := fun x hx => by
  obtain ⟨i, _, rfl⟩ := List.mem_map.1 hx
  exact itN_lt h i
noncomputable def rowsF (p : Par) (session : Nat) (obj : List UInt8) (f k : Nat) : List (List UInt8) := framesN p session obj (idsN f k)
theorem rowsF_succ (p : Par) (session : Nat) (obj : List UInt8) (f k : Nat) : rowsF p session obj f (k + 1) = rowsF p session obj f k ++ [frameN p session obj (itN f k)] := by
  unfold rowsF framesN
  rw [idsN_succ, List.map_append]; rfl
theorem rowsF_length (p : Par) (session : Nat) (obj : List UInt8) (f k : Nat) : (rowsF p session obj f k).length = k := by unfold rowsF; rw [framesN_length, idsN_length]
theorem five_ex (f : Nat) : ∃ m : Nat, IntKind.u64.wrap ((f : Int) + 5) = (m : Int) ∧ m < 18446744073709551616 := ⟨(f + 5) % 18446744073709551616, by unfold IntKind.wrap; simp [IntKind.bits, IntKind.signed], Nat.mod_lt _ (by decide)⟩
theorem wf_u8_bounds {n : Int} (h : (Lit.int .u8 n).wf = true) : 0 ≤ n ∧ n ≤ 255 := by
  have := Go.bounds_u8 h
  omega
end Go.Proofs.YtnnkfopopanfjaaGreat
