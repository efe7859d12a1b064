/- The first words of the laws of equations: the walk of almonrylaw15.speaks. No condition. -/
import Derived.Test.YtpkkaicpbihjfaaEqSame
import Derived.Test.YtpkkaicpbihjfaaEqLeft
set_option linter.unusedVariables false
namespace Go.Proofs.Ytpkkaicpbihjfaa
open Go.RowKit

theorem BytesIn.ofCells {R : Nat → Prop} {w : World} {b : Nat} {e : TypeId} {fr : Nat × Nat} (l : List UInt8) (h : w.heap[b]? = some (.cells ((enc8 l).map (Value.int .u8)).toArray e fr)) (hl : l.length ≤ 9223372036854775807) (hR : R b) : BytesIn R w (some ⟨b, 0, none⟩) l :=
  ⟨IntsAt.ofBlock (enc8 l) h (by rw [enc8_length]; exact hl), fun b' off e' _ => by injection e' with e'; injection e' with e' _; subst e'; exact hR⟩
theorem IntsIn.ofCells {R : Nat → Prop} {w : World} {b : Nat} {e : TypeId} {fr : Nat × Nat} (l : List Int) (h : w.heap[b]? = some (.cells (l.map (Value.int .i64)).toArray e fr)) (hl : l.length ≤ 9223372036854775807) (hR : R b) : IntsIn R w (some ⟨b, 0, none⟩) l :=
  ⟨IntsAt.ofBlock l h hl, fun b' off e' _ => by injection e' with e'; injection e' with e' _; subst e'; exact hR⟩
theorem odd_15 : oddN [3, 1, 3, 2] = [1, 2] := by decide
theorem sum_15 : sumB 1 [[5], [6]] = [3] := by decide
theorem heap_allocs (os : List Obj) : ∀ (w : World) (i : Nat), i < os.length → (os.foldl World.alloc w).heap[w.heap.size + i]? = os[i]? := by
  have keep : ∀ (os : List Obj) (w : World) (k : Nat), k < w.heap.size → (os.foldl World.alloc w).heap[k]? = w.heap[k]? := by
    intro os
    induction os with
    | nil => intro w k _; rfl
    | cons o os ih =>
      intro w k hk
      show (os.foldl World.alloc (w.alloc o)).heap[k]? = _
      rw [ih _ _ (by simp; omega)]
      exact Below.heap_alloc _ _ _ hk
  induction os with
  | nil => intro w i hi; simp at hi
  | cons o os ih =>
    intro w i hi
    show (os.foldl World.alloc (w.alloc o)).heap[w.heap.size + i]? = _
    cases i with
    | zero => rw [keep os _ _ (by simp)]; exact heap_alloc_new w o
    | succ i =>
      have := ih (w.alloc o) i (by simpa using hi)
      rw [World.size_alloc] at this
      rw [show w.heap.size + (i + 1) = w.heap.size + 1 + i by omega, this]; rfl
theorem keeps_allocs (os : List Obj) : ∀ w : World, Keeps NoB w (os.foldl World.alloc w) := by
  induction os with
  | nil => intro w; exact Keeps.refl _ _
  | cons o os ih => intro w; exact ((Keeps.refl NoB w).alloc o).fresh (ih _)
theorem rows_three (w : World) (b b0 b1 b2 : Nat) (l0 l1 l2 : List UInt8) (T : TypeId) (h : w.heap[b]? = some (.cells #[.slice (some ⟨b0, 0, none⟩) l0.length l0.length, .slice (some ⟨b1, 0, none⟩) l1.length l1.length, .slice (some ⟨b2, 0, none⟩) l2.length l2.length] T (0, 0)))
    (h0 : BytesIn (fun _ => True) w (some ⟨b0, 0, none⟩) l0) (h1 : BytesIn (fun _ => True) w (some ⟨b1, 0, none⟩) l1) (h2 : BytesIn (fun _ => True) w (some ⟨b2, 0, none⟩) l2) : RowsIn (fun _ => True) w (some ⟨b, 0, none⟩) [l0, l1, l2] := by
  refine ⟨by simp, fun _ => ⟨b, 0, rfl, trivial, fun j hj => ?_⟩⟩
  match j, hj with
  | 0, _ => exact ⟨.slice (some ⟨b0, 0, none⟩) l0.length l0.length, by simp [World.cell?, h], ⟨_, _, rfl, Nat.le_refl _, (fun e => by cases e), h0⟩⟩
  | 1, _ => exact ⟨.slice (some ⟨b1, 0, none⟩) l1.length l1.length, by simp [World.cell?, h], ⟨_, _, rfl, Nat.le_refl _, (fun e => by cases e), h1⟩⟩
  | 2, _ => exact ⟨.slice (some ⟨b2, 0, none⟩) l2.length l2.length, by simp [World.cell?, h], ⟨_, _, rfl, Nat.le_refl _, (fun e => by cases e), h2⟩⟩
theorem eqs_two (R : Nat → Prop) (w : World) (b b0 b1 b2 b3 : Nat) (x y : EqV) (T : TypeId) (hR : ∀ k, R k) (h : w.heap[b]? = some (.cells #[.slice (some ⟨b0, 0, none⟩) x.of.length x.of.length, .slice (some ⟨b1, 0, none⟩) x.val.length x.val.length, .slice (some ⟨b2, 0, none⟩) y.of.length y.of.length, .slice (some ⟨b3, 0, none⟩) y.val.length y.val.length] T (0, 0)))
    (h0 : IntsIn R w (some ⟨b0, 0, none⟩) x.of) (h1 : BytesIn R w (some ⟨b1, 0, none⟩) x.val) (h2 : IntsIn R w (some ⟨b2, 0, none⟩) y.of) (h3 : BytesIn R w (some ⟨b3, 0, none⟩) y.val) : EqsIn R w (some ⟨b, 0, none⟩) [x, y] := by
  refine ⟨by simp, fun _ => ⟨b, 0, rfl, hR b, fun j hj => ?_⟩⟩
  match j, hj with
  | 0, _ => exact ⟨.slice (some ⟨b0, 0, none⟩) x.of.length x.of.length, .slice (some ⟨b1, 0, none⟩) x.val.length x.val.length, by simp [World.cell?, h], by simp [World.cell?, h], ⟨_, _, rfl, Nat.le_refl _, (fun e => by cases e), h0⟩, ⟨_, _, rfl, Nat.le_refl _, (fun e => by cases e), h1⟩⟩
  | 1, _ => exact ⟨.slice (some ⟨b2, 0, none⟩) y.of.length y.of.length, .slice (some ⟨b3, 0, none⟩) y.val.length y.val.length, by simp [World.cell?, h], by simp [World.cell?, h], ⟨_, _, rfl, Nat.le_refl _, (fun e => by cases e), h2⟩, ⟨_, _, rfl, Nat.le_refl _, (fun e => by cases e), h3⟩⟩
end Go.Proofs.Ytpkkaicpbihjfaa
