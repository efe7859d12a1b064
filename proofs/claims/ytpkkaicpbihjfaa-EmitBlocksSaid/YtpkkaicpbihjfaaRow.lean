/- From what came in to this seat's words: slices of numbers. -/
import Derived.Test.YtpkkaicpbihjfaaRows
import Derived.Test.YtpkkaicpbihjfaaRng
import Derived.WalkKit
import Derived.ProofKit
import Derived.OpenShut
import Derived.ShutString
import Derived.ChangeOld
import Derived.Below
import Derived.SizedLaws
import Derived.Lib.SmallJoins
set_option linter.unusedVariables false
namespace Go.Proofs.Ytpkkaicpbihjfaa
open Go.ChangeShapes Go.WideShapes Go.ChangeAt Go.RowKit

theorem own0 : ownKnob Try.prog.godebug = none := by kernel_rfl
theorem laidOut0 : laidOutB Try.prog = true := by kernel_rfl
def IsRow (k : IntKind) (w : World) (a : Option Addr) (len cap : Nat) (zs : List Int) : Prop :=
  (a = none ∧ len = 0 ∧ cap = 0 ∧ zs = []) ∨
  ∃ x, a = some x ∧ len ≤ cap ∧ cap ≤ maxLen ∧ zs.length = cap ∧ (∀ i, i < zs.length → w.cell? (x.add i) = some (.int k (zs.getD i 0))) ∧ ∀ n ∈ zs, (Lit.int k n).wf = true
theorem IsRow.ints {k : IntKind} {w : World} {a : Option Addr} {len cap : Nat} {zs : List Int} (h : IsRow k w a len cap zs) : ∃ xs : List Int, len = xs.length ∧ xs.length ≤ cap ∧ IntsAt w k a xs ∧ ∀ n ∈ xs, (Lit.int k n).wf = true := by
  rcases h with ⟨rfl, rfl, rfl, rfl⟩ | ⟨x, rfl, hl, hm, hz, hc, hw⟩
  · exact ⟨[], rfl, Nat.le_refl _, ⟨by simp, fun h => by simp at h⟩, by simp⟩
  · have hlen : (zs.take len).length = len := by rw [List.length_take]; omega
    refine ⟨zs.take len, hlen.symm, by omega, ⟨by unfold maxLen at hm; omega, fun h0 => ?_⟩, fun n hn => hw n (List.mem_of_mem_take hn)⟩
    obtain ⟨b, off, spot⟩ := x
    have hs : spot = none := by
      have := hc 0 (by omega)
      simpa [Addr.add] using World.cell?_spot this
    subst hs
    refine ⟨b, off, rfl, fun j hj => ?_⟩
    have h1 := hc j (by omega)
    have h2 : gi (zs.take len) j = zs.getD j 0 := by
      rw [hlen] at hj
      simp [gi, hj]
    rw [h2]
    unfold Addr.add at h1
    split at h1
    · rename_i e; subst e; simpa using h1
    · simpa using h1
/-- A field (or a cell) that is a slice of numbers. -/
theorem cell_ints {H : Type} {enc : TypeId × Value → H} {W : World} {base : Nat} {sp : Nat → Bool} {held : Bool} {n : Nat} {T E : TypeId} {k : IntKind} {v : Value} {y : DataW H × List MemPlace} (ht : Try.prog.underlying T = some (.slice E)) (he : Try.prog.underlying E = some (.int k)) (hc : Try.prog.cellsOf E = 1)
    (hsp : ∀ b, sp b = true) (h : DataW.trod enc Try.prog W base sp held n T [v] = some y) : ∃ (xs : List Int) (a : Option Addr) (cap : Nat), v = .slice a xs.length cap ∧ xs.length ≤ cap ∧ IntsAt W k a xs ∧ ∀ n ∈ xs, (Lit.int k n).wf = true := by
  rcases open_ints ht he hc h with ⟨hcs, _⟩ | ⟨x, l, c, zs, hcs, _, hl, hm, hz, _, hcell, hwz⟩
  · have : v = .slice none 0 0 := by simpa using hcs
    subst this
    exact ⟨[], none, 0, rfl, Nat.le_refl _, ⟨by simp, fun h => by simp at h⟩, by simp⟩
  · have : v = .slice (some x) l c := by simpa using hcs
    subst this
    rw [hsp, if_pos rfl] at hz
    obtain ⟨xs, rfl, h1, h2, h3⟩ := IsRow.ints (k := k) (w := W) (a := some x) (len := l) (cap := c) (zs := zs) (.inr ⟨x, rfl, hl, hm, hz, hcell, hwz⟩)
    exact ⟨xs, _, _, rfl, h1, h2, h3⟩
theorem cell_int {H : Type} {enc : TypeId × Value → H} {W : World} {base : Nat} {sp : Nat → Bool} {held : Bool} {n : Nat} {T : TypeId} {k : IntKind} {v : Value} {y : DataW H × List MemPlace} (ht : Try.prog.underlying T = some (.int k))
    (h : DataW.trod enc Try.prog W base sp held n T [v] = some y) : ∃ x : Int, v = .int k x ∧ (Lit.int k x).wf = true := by
  obtain ⟨x, hcs, _, hw⟩ := DataW.trod_int ht h
  exact ⟨x, by simpa using hcs, hw⟩
theorem wf_u64_bounds {n : Int} (h : (Lit.int .u64 n).wf = true) : 0 ≤ n ∧ n < 18446744073709551616 := by
  have := Go.bounds_u64 h
  omega
theorem wf_i64_bounds {n : Int} (h : (Lit.int .i64 n).wf = true) : -9223372036854775808 ≤ n ∧ n ≤ 9223372036854775807 := by
  have := Go.bounds_i64 h
  omega
theorem NatsAt.ofInts {w : World} {a : Option Addr} {xs : List Int} (h : IntsAt w .u64 a xs) (hw : ∀ n ∈ xs, (Lit.int .u64 n).wf = true) : ∃ ns : List Nat, xs.length = ns.length ∧ NatsAt w a ns := by
  have e : xs = (xs.map Int.toNat).map (fun n : Nat => (n : Int)) := by
    rw [List.map_map]
    conv => lhs; rw [← List.map_id xs]
    apply List.map_congr_left
    intro n hn
    have := (wf_u64_bounds (hw n hn)).1
    simp; omega
  refine ⟨xs.map Int.toNat, by simp, by rw [← e]; exact h, fun x hx => ?_⟩
  obtain ⟨n, hn, rfl⟩ := List.mem_map.1 hx
  have := wf_u64_bounds (hw n hn)
  omega
end Go.Proofs.Ytpkkaicpbihjfaa
