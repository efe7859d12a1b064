/- Composite blocks of an object are right: the plain law. Conditions: parameters that may be. -/
import Derived.Test.YtpkkaicpbihjfaaSpeaks13
set_option linter.unusedVariables false
namespace Go.Proofs.Ytpkkaicpbihjfaa
open Go.RowKit

theorem chunks_flat (B : Nat) (obj : List UInt8) (N : Nat) : ((List.range N).map (chunkN B obj)).flatten = (List.range (N * B)).map (gb obj) := by
  induction N with
  | zero => simp
  | succ N ih =>
    rw [List.range_succ, List.map_append, List.flatten_append, ih, Nat.succ_mul, List.range_add, List.map_append]
    simp [chunkN, Function.comp_def]
theorem map_gb (obj : List UInt8) : (List.range obj.length).map (gb obj) = obj := by
  apply List.ext_getElem (by simp)
  intro j h1 h2
  simp [gb, h2]
theorem join_split {p : Par} {obj : List UInt8} (h : obj.length ≤ p.n.toNat * p.b.toNat) : joinN obj.length (splitN p obj) = obj := by
  unfold joinN splitN
  rw [chunks_flat, ← List.map_take, List.take_range, Nat.min_eq_left h]
  exact map_gb obj
theorem comp_take (p : Par) (session : Nat) (obj : List UInt8) : (compN p session obj).take p.n.toNat = splitN p obj := by
  unfold compN compK
  rw [List.take_append_of_le_length (by rw [splitN_length]; omega), ← splitN_length p obj, List.take_length]
theorem split_fitB (p : Par) (obj : List UInt8) : fitB p.b.toNat (splitN p obj) = true := by
  unfold fitB splitN
  rw [List.all_eq_true]
  intro l hl
  obtain ⟨i, _, rfl⟩ := List.mem_map.1 hl
  simp [chunkN_length]
theorem right_comp {p : Par} (hm : p.may) (session : Nat) (obj : List UInt8) (h : (obj.length : Int) ≤ p.n * p.b) : rightB p session (obj.length : Int) (compN p session obj) = true := by
  obtain ⟨N, B, hpn, hpb, hpn2, hpb2, hN1, hN2, hB1, hB2, hNB, hNB2⟩ := par_sizes hm
  have hl : obj.length ≤ p.n.toNat * p.b.toNat := by rw [hpn2, hpb2]; rw [hNB] at h; omega
  refine rightB_true ⟨hm, ?_, ⟨?_, by omega, h, ?_⟩, ?_⟩
  · unfold compN; rw [compK_length]; omega
  · rw [comp_take, splitN_length]; omega
  · rw [comp_take]; exact split_fitB p obj
  · rw [comp_take, Int.toNat_natCast, join_split hl]
end Go.Proofs.Ytpkkaicpbihjfaa
