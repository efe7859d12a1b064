/- The blocks of an equation that aren't known; does an equation hold, by the reference: the walks. Conditions: lengths are small; what is read lies below. -/
import Derived.Test.YtpkkaicpbihjfaaEqAdd
import Derived.Test.YtpkkaicpbihjfaaG4
import Derived.BigQuiet
set_option linter.unusedVariables false
namespace Go.Proofs.Ytpkkaicpbihjfaa
open Go.RowKit

theorem xorL_zero2 {l : List UInt8} {n : Nat} (h : l.length = n) : xorL (List.replicate n 0) l = l := by
  subst h
  induction l with
  | nil => rfl
  | cons x l ih =>
    show (0 ^^^ x) :: xorL (List.replicate l.length 0) l = x :: l
    rw [ih]; simp
theorem sum_val (val : List UInt8) (sel : List (List UInt8)) : sumB val.length (val :: sel) = xorAll val sel := by
  show xorAll (xorL (List.replicate val.length 0) val) sel = _
  rw [xorL_zero2 rfl]
theorem OwnRows.one {R : Nat → Prop} {w : World} {base : Nat} {u : Value} {l : List UInt8} (hb : base ≤ w.heap.size) (h : RowIn (fun b => R b ∧ b < w.heap.size) w u l) : OwnRows R (w.alloc (.cells #[u] 25)) base (.slice (some ⟨w.heap.size, 0, none⟩) 1 1) [l] := by
  refine ⟨[u], rfl, ⟨by simp, .inr ⟨w.heap.size, 1, #[u], rfl, hb, heap_alloc_new w _, Nat.le_refl _, by unfold maxLen; omega, rfl, by simp⟩⟩, fun j u' hu => ?_⟩
  cases j with
  | zero =>
    simp at hu; subst hu
    exact (h.keeps ((Keeps.refl NoB w).alloc _) (fun _ _ h => h)).mono (fun b _ hb => ⟨hb.1, fun e => absurd (show w.heap.size = b by simpa [Value.ownBlock] using e) (by omega)⟩)
  | succ j => simp at hu
end Go.Proofs.Ytpkkaicpbihjfaa
