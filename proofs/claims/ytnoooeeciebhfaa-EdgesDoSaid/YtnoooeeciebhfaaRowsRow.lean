/- An argument that is a slice of slices of bytes. Conditions: the row's. -/
import Derived.Test.YtnoooeeciebhfaaBytesRow
import Derived.Deep.Matrix
set_option linter.unusedVariables false
namespace Go.Proofs.Ytnoooeeciebhfaa
open Go.ChangeShapes Go.WideShapes Go.ChangeAt Go.RowKit Go.Deep

theorem add_none {a : Addr} {i : Nat} (h : a.spot = none) : a.add i = ⟨a.block, a.off + i, none⟩ := by
  obtain ⟨b, o, s⟩ := a
  simp only at h
  subst h
  unfold Addr.add
  split
  · rename_i e; subst e; rfl
  · rfl
/-- A row whose cells are told: its bytes. -/
theorem row_bytes {w : World} {A : Option Addr} {l c : Nat} {Z : List Int} (hl : l ≤ c) (hm : c ≤ maxLen) (hz : Z.length = c) (hw : ∀ n ∈ Z, (Lit.int .u8 n).wf = true) (hA : A = none → c = 0) (hc : ∀ a', A = some a' → ∀ j, j < c → w.cell? (a'.add j) = some (.int .u8 (Z.getD j 0))) :
    ∃ b : List UInt8, l = b.length ∧ BytesIn (fun _ => True) w A b := by
  cases A with
  | none =>
    have h0 := hA rfl
    obtain rfl : l = 0 := by omega
    exact ⟨[], rfl, BytesIn.nil _ _⟩
  | some a =>
    obtain ⟨xs, h1, h2, h3, h4⟩ := IsRow.ints (k := .u8) (w := w) (a := some a) (len := l) (cap := c) (zs := Z) (.inr ⟨a, rfl, hl, hm, hz, fun i hi => hc a rfl i (by omega), hw⟩)
    obtain ⟨b, hb, hbi⟩ := BytesIn.ofInts h3 h4
    exact ⟨b, by omega, hbi⟩
set_option maxRecDepth 100000 in
theorem open_rows {H : Type} {enc : TypeId × Value → H} {W : World} {r : Reach} {b0 base : Nat} {held : Bool} {v : Value} {d : DataW H} {p : List MemPlace}
    (hv : Value.okWide Try.prog W r b0 56 v) (h : DataW.Trod enc Try.prog W base (fun _ => true) held 56 v d p) : ∃ ls A c, v = .slice A (List.length ls) c ∧ ls.length ≤ c ∧ (A = none → c = 0) ∧ RowsIn (fun _ => True) W A ls := by
  obtain ⟨a, len, cap, rfl⟩ := okWide_slice Try.underlying56 hv
  obtain ⟨fuel, hf⟩ := h
  rcases open_int_rows Try.underlying56 Try.underlying66 Try.underlying5 (by kernel_rfl) (by kernel_rfl) hf with ⟨hcs, _⟩ | ⟨x, l, c, AA, L, C, Z, hcs, _, hl, hm, _, hr⟩
  · simp [Value.cells] at hcs
    obtain ⟨rfl, rfl, rfl⟩ := hcs
    exact ⟨[], none, 0, rfl, Nat.le_refl _, fun _ => rfl, RowsIn.nil _ _ _⟩
  · simp [Value.cells] at hcs
    obtain ⟨rfl, rfl, rfl⟩ := hcs
    have each : ∀ j, ∃ b : List UInt8, j < cap → L j = b.length ∧ BytesIn (fun _ => True) W (AA j) b := by
      intro j
      by_cases hj : j < cap
      · obtain ⟨_, h1, h2, h3, h4, h5, h6⟩ := hr j hj
        obtain ⟨b, hb⟩ := row_bytes (w := W) h1 h2 h3 h4 h5 (fun a' e => (h6 a' e).2)
        exact ⟨b, fun _ => hb⟩
      · exact ⟨[], fun h => absurd h hj⟩
    have f := fun j => Classical.choose_spec (each j)
    generalize hF : (fun j => Classical.choose (each j)) = F at f
    have hF' : ∀ j, Classical.choose (each j) = F j := fun j => by rw [← hF]
    refine ⟨(List.range len).map F, some x, cap, by simp, by simpa using hl, (fun e => by cases e), (by simp; unfold maxLen at hm; omega), fun h0 => ?_⟩
    simp only [List.length_map, List.length_range] at h0
    obtain ⟨xb, xo, xs⟩ := x
    have hs : xs = none := by
      have := (hr 0 (by omega)).1
      simpa [Addr.add] using World.cell?_spot this
    subst hs
    refine ⟨xb, xo, rfl, trivial, fun j hj => ?_⟩
    simp only [List.length_map, List.length_range] at hj
    obtain ⟨h0', h1, h2, h3, h4, h5, h6⟩ := hr j (by omega)
    have hfj := f j (by omega)
    rw [hF'] at hfj
    refine ⟨_, by rw [show (⟨xb, xo + j, none⟩ : Addr) = (⟨xb, xo, none⟩ : Addr).add j from (add_none (a := ⟨xb, xo, none⟩) (i := j) rfl).symm]; exact h0', AA j, C j, ?_, ?_, h5, ?_⟩
    · have : gr ((List.range len).map F) j = F j := by simp [gr, hj]
      rw [this, ← hfj.1]
    · have : gr ((List.range len).map F) j = F j := by simp [gr, hj]
      rw [this, ← hfj.1]; exact h1
    · have : gr ((List.range len).map F) j = F j := by simp [gr, hj]
      rw [this]; exact hfj.2
end Go.Proofs.Ytnoooeeciebhfaa
