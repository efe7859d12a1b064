/- The library's iterator over a list of numbers, and the list that is collected of it, sorted. Conditions: the list is read below the call's own memory; its length is small. -/
import Derived.RangeFuncNested
import Derived.RangeFuncBound
import Derived.RangeFuncBox
import Derived.RangeFuncCalls
import Derived.RangeFuncLeaves
import Derived.Shelf.Abstract
import Derived.Shelf.RegionOpen
import Derived.WalkKit
import Derived.OwnWalkIn
import Derived.TacticsInMore
import Derived.LoopNIn
import Derived.LoopIn
import Derived.Maps.AppendAt
import Derived.Test.YtnnkfopopanfjaaG2
import Derived.Test.YtnnkfopopanfjaaG1
set_option linter.unusedVariables false
namespace Go.Proofs.Ytnnkfopopanfjaa
open Go.RowKit Go.Shelf

attribute [local go_sem] Oper.semAt_some

/-- What has come when k rounds are over. -/
def uptoI (f : Nat → Int) (k : Nat) : List Int := (List.range k).map f
theorem uptoI_succ (f : Nat → Int) (k : Nat) : uptoI f (k + 1) = uptoI f k ++ [f k] := by simp [uptoI, List.range_succ]
theorem uptoI_length (f : Nat → Int) (k : Nat) : (uptoI f k).length = k := by simp [uptoI]
theorem uptoI_all (zs : List Int) : uptoI (fun j => zs[j]?.getD 0) zs.length = zs := by
  apply List.ext_getElem
  · simp [uptoI]
  · intro i h1 h2; simp [uptoI, h2]
theorem uptoI_take (zs : List Int) {k : Nat} (hk : k ≤ zs.length) : uptoI (fun j => zs[j]?.getD 0) k = zs.take k := by
  apply List.ext_getElem
  · simp [uptoI, hk]
  · intro i h1 h2
    have : i < zs.length := by simp [uptoI] at h1; omega
    simp [uptoI, this]
/-- A slice value that is read below some block. -/
def SlB (n₀ : Nat) (W : World) (sv : Value) (zs : List Int) : Prop := ∃ A c, sv = .slice A zs.length c ∧ (zs = [] ∨ ∃ b off, A = some ⟨b, off, none⟩ ∧ b < n₀ ∧ ∀ j, j < zs.length → W.cell? ⟨b, off + j, none⟩ = some (.int .i64 (zs[j]?.getD 0)))
theorem SlB.below {n₀ : Nat} {A B : World} (h : Below n₀ A B) {sv : Value} {zs : List Int} (k : SlB n₀ A sv zs) : SlB n₀ B sv zs := by
  obtain ⟨A', c, e, h1⟩ := k
  refine ⟨A', c, e, ?_⟩
  rcases h1 with e1 | ⟨b, off, e2, hb, hc⟩
  · exact .inl e1
  · exact .inr ⟨b, off, e2, hb, fun j hj => (h.cell (p := ⟨b, off + j, none⟩) hb).trans (hc j hj)⟩
theorem SlB.of {w : World} {A : Option Addr} {c : Nat} {zs : List Int} (h : IntsAt w .i64 A zs) : SlB w.heap.size w (.slice A zs.length c) zs := by
  refine ⟨A, c, rfl, ?_⟩
  rcases Nat.eq_zero_or_pos zs.length with h0 | h0
  · exact .inl (List.length_eq_zero_iff.1 h0)
  · obtain ⟨b, off, e, hc⟩ := h.get h0
    refine .inr ⟨b, off, e, h.lt b off e h0, fun j hj => ?_⟩
    rw [hc j hj, gi, List.getD_eq_getElem?_getD]

end Go.Proofs.Ytnnkfopopanfjaa
