/- An argument that is a slice of bytes. Conditions: the row's. -/
import Derived.Test.YtnoooeeciebhfaaRow
import Derived.Test.YtnoooeeciebhfaaBytes
set_option linter.unusedVariables false
namespace Go.Proofs.Ytnoooeeciebhfaa
open Go.RowKit

theorem bytes_of_ints : ∀ xs : List Int, (∀ n ∈ xs, (Lit.int .u8 n).wf = true) → ∃ l : List UInt8, xs = enc8 l
  | [], _ => ⟨[], rfl⟩
  | n :: r, h => by
    obtain ⟨l, hl⟩ := bytes_of_ints r (fun m hm => h m (List.mem_cons_of_mem _ hm))
    have hn := Go.bounds_u8 (h n (List.mem_cons_self ..))
    refine ⟨UInt8.ofNat n.toNat :: l, ?_⟩
    rw [hl]
    simp only [enc8, List.map_cons, List.cons.injEq, and_true]
    have : (UInt8.ofNat n.toNat).toNat = n.toNat := by
      rw [UInt8.toNat_ofNat', Nat.mod_eq_of_lt (by omega)]
    omega
theorem BytesIn.ofInts {w : World} {a : Option Addr} {xs : List Int} (h : IntsAt w .u8 a xs) (hw : ∀ n ∈ xs, (Lit.int .u8 n).wf = true) : ∃ l : List UInt8, xs.length = l.length ∧ BytesIn (fun _ => True) w a l := by
  obtain ⟨l, rfl⟩ := bytes_of_ints xs hw
  exact ⟨l, enc8_length l, h, fun _ _ _ _ => trivial⟩
end Go.Proofs.Ytnoooeeciebhfaa
