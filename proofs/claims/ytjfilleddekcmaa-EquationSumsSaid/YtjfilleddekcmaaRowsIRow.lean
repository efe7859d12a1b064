/- An argument that is lists of numbers. Conditions: the row's. -/
import Derived.Test.YtjfilleddekcmaaRowsRow
set_option linter.unusedVariables false
namespace Go.Proofs.Ytjfilleddekcmaa
open Go.ChangeShapes Go.WideShapes Go.ChangeAt Go.RowKit Go.Deep

theorem row_nums {w : World} {A : Option Addr} {l c : Nat} {Z : List Int} (hl : l ≤ c) (hm : c ≤ maxLen) (hz : Z.length = c) (hw : ∀ n ∈ Z, (Lit.int .i64 n).wf = true) (hA : A = none → c = 0) (hc : ∀ a', A = some a' → ∀ j, j < c → w.cell? (a'.add j) = some (.int .i64 (Z.getD j 0))) :
    ∃ b : List Int, l = b.length ∧ IntsAt w .i64 A b := by
  cases A with
  | none =>
    have h0 := hA rfl
    obtain rfl : l = 0 := by omega
    exact ⟨[], rfl, by simp, fun h => by simp at h⟩
  | some a =>
    obtain ⟨xs, h1, h2, h3, h4⟩ := IsRow.ints (k := .i64) (w := w) (a := some a) (len := l) (cap := c) (zs := Z) (.inr ⟨a, rfl, hl, hm, hz, fun i hi => hc a rfl i (by omega), hw⟩)
    exact ⟨xs, by omega, h3⟩
set_option maxRecDepth 100000 in
theorem open_rowsi {H : Type} {enc : TypeId × Value → H} {W : World} {r : Reach} {b0 base : Nat} {held : Bool} {v : Value} {d : DataW H} {p : List MemPlace}
    (hv : Value.okWide Try.prog W r b0 38 v) (h : DataW.Trod enc Try.prog W base (fun _ => true) held 38 v d p) : ∃ ls A c, v = .slice A (List.length ls) c ∧ ls.length ≤ c ∧ (A = none → c = 0) ∧ RowsAt W A ls := by
  obtain ⟨a, len, cap, rfl⟩ := okWide_slice Try.underlying38 hv
  obtain ⟨fuel, hf⟩ := h
  rcases open_int_rows Try.underlying38 Try.underlying25 Try.underlying3 (by kernel_rfl) (by kernel_rfl) hf with ⟨hcs, _⟩ | ⟨x, l, c, AA, L, C, Z, hcs, _, hl, hm, _, hr⟩
  · simp [Value.cells] at hcs
    obtain ⟨rfl, rfl, rfl⟩ := hcs
    exact ⟨[], none, 0, rfl, Nat.le_refl _, fun _ => rfl, by simp, fun h => by simp at h⟩
  · simp [Value.cells] at hcs
    obtain ⟨rfl, rfl, rfl⟩ := hcs
    have each : ∀ j, ∃ b : List Int, j < cap → L j = b.length ∧ IntsAt W .i64 (AA j) b := by
      intro j
      by_cases hj : j < cap
      · obtain ⟨_, h1, h2, h3, h4, h5, h6⟩ := hr j hj
        obtain ⟨b, hb⟩ := row_nums (w := W) h1 h2 h3 h4 h5 (fun a' e => (h6 a' e).2)
        exact ⟨b, fun _ => hb⟩
      · exact ⟨[], fun h => absurd h hj⟩
    have f := fun j => Classical.choose_spec (each j)
    generalize hF : (fun j => Classical.choose (each j)) = F at f
    have hF' : ∀ j, Classical.choose (each j) = F j := fun j => by rw [← hF]
    refine ⟨(List.range len).map F, some x, cap, by simp, by simpa using hl, (fun e => by cases e), (by simp; unfold maxLen at hm; omega), fun h0 => ?_⟩
    simp only [List.length_map, List.length_range] at h0
    obtain ⟨xb, xo, xs⟩ := x
    have hs : xs = none := by
      have := (hr 0 (by omega)).1
      simpa [Addr.add] using World.cell?_spot this
    subst hs
    refine ⟨xb, xo, rfl, fun j hj => ?_⟩
    simp only [List.length_map, List.length_range] at hj
    obtain ⟨h0', h1, h2, h3, h4, h5, h6⟩ := hr j (by omega)
    have hfj := f j (by omega)
    rw [hF'] at hfj
    have hgl : gl ((List.range len).map F) j = F j := by rw [gl_eq _ _ (by simp; exact hj)]; simp
    refine ⟨_, by rw [show (⟨xb, xo + j, none⟩ : Addr) = (⟨xb, xo, none⟩ : Addr).add j from (add_none (a := ⟨xb, xo, none⟩) (i := j) rfl).symm]; exact h0', AA j, C j, ?_, ?_, h5, ?_⟩
    · rw [hgl, ← hfj.1]
    · rw [hgl, ← hfj.1]; exact h1
    · rw [hgl]; exact hfj.2
end Go.Proofs.Ytjfilleddekcmaa
