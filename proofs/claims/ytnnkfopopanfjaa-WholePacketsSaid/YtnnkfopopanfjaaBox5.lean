/- A struct of five numbers in a box: what it holds, and what is written. No condition. -/
import Derived.Test.YtnnkfopopanfjaaOuterNew
set_option linter.unusedVariables false
namespace Go.Proofs.Ytnnkfopopanfjaa
open Go.RowKit

theorem set5 {w : World} {b : Nat} {a0 a1 a2 a3 a4 : Value} {T : TypeId} {fr : Nat × Nat} (h : w.heap[b]? = some (.cells #[a0, a1, a2, a3, a4] T fr)) (x0 x1 x2 x3 x4 : Value) :
    (((((w.setCell ⟨b, 0, none⟩ x0).setCell ⟨b, 1, none⟩ x1).setCell ⟨b, 2, none⟩ x2).setCell ⟨b, 3, none⟩ x3).setCell ⟨b, 4, none⟩ x4).heap[b]? = some (.cells #[x0, x1, x2, x3, x4] T fr) :=
  heap_set_same (heap_set_same (heap_set_same (heap_set_same (heap_set_same h x0) x1) x2) x3) x4
theorem keep5 {w : World} {b : Nat} (x0 x1 x2 x3 x4 : Value) : Keeps (fun k => k = b) w (((((w.setCell ⟨b, 0, none⟩ x0).setCell ⟨b, 1, none⟩ x1).setCell ⟨b, 2, none⟩ x2).setCell ⟨b, 3, none⟩ x3).setCell ⟨b, 4, none⟩ x4) :=
  (((((Keeps.refl (fun k => k = b) w).setCell (p := ⟨b, 0, none⟩) (fun _ => rfl) x0).setCell (p := ⟨b, 1, none⟩) (fun _ => rfl) x1).setCell (p := ⟨b, 2, none⟩) (fun _ => rfl) x2).setCell (p := ⟨b, 3, none⟩) (fun _ => rfl) x3).setCell (p := ⟨b, 4, none⟩) (fun _ => rfl) x4
theorem cells5 {w : World} {b : Nat} {x0 x1 x2 x3 x4 : Value} {T : TypeId} {fr : Nat × Nat} (h : w.heap[b]? = some (.cells #[x0, x1, x2, x3, x4] T fr)) :
    w.cell? ⟨b, 0, none⟩ = some x0 ∧ w.cell? ⟨b, 1, none⟩ = some x1 ∧ w.cell? ⟨b, 2, none⟩ = some x2 ∧ w.cell? ⟨b, 3, none⟩ = some x3 ∧ w.cell? ⟨b, 4, none⟩ = some x4 := by
  simp [World.cell?, h]
theorem free5 {w : World} {b : Nat} {cells : Array Value} {T : TypeId} (h : w.heap[b]? = some (.cells cells T (0, 0))) (j : Nat) : w.frozen? ⟨b, j, none⟩ = false := by
  simp [World.frozen?, h]
end Go.Proofs.Ytnnkfopopanfjaa
