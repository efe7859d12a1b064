/- Equations, and their values, two lists that grow side by side. No condition. -/
import Derived.Test.YtkjaacpcnjakcaaEqsOwnG
import Derived.Test.YtkjaacpcnjakcaaBRows
set_option linter.unusedVariables false
namespace Go.Proofs.Ytkjaacpcnjakcaa
open Go.RowKit

theorem OwnEqs.lower {R : Nat → Prop} {w : World} {base base' : Nat} {v : Value} {es : List EqV} (h : OwnEqs R w base v es) (hb : base' ≤ base) : OwnEqs R w base' v es := by
  obtain ⟨us, hown, h3⟩ := h
  refine ⟨us, ⟨hown.1, ?_⟩, h3⟩
  rcases hown.2 with h2 | ⟨g, cap, cur, rfl, hg, r⟩
  · exact .inl h2
  · exact .inr ⟨g, cap, cur, rfl, Nat.le_trans hb hg, r⟩
structure EqSt (w0 wr : World) (v4 v5 : Value) (es : List EqV) (vs : List (List UInt8)) : Prop where
  eqs : OwnEqs (fun b => b < wr.heap.size ∧ v5.ownBlock ≠ some b) wr w0.heap.size v4 es
  vals : OwnRows (fun b => b < wr.heap.size ∧ v4.ownBlock ≠ some b) wr w0.heap.size v5 vs
  apart : ∀ b, v4.ownBlock = some b → v5.ownBlock ≠ some b
  keeps : Keeps NoB w0 wr
variable {w0 wr w' : World} {v4 v5 : Value} {es : List EqV} {vs : List (List UInt8)}
theorem EqSt.nil (w0 : World) : EqSt w0 w0 (.slice none 0 0) (.slice none 0 0) [] [] := ⟨OwnEqs.nil _ _ _, OwnRows.nil _ _ _, (fun b h => by cases h), Keeps.refl _ _⟩
theorem EqSt.kept (h : EqSt w0 wr v4 v5 es vs) (hk : Keeps NoB wr w') : EqSt w0 w' v4 v5 es vs :=
  ⟨(h.eqs.kept hk).mono (fun b _ hb => ⟨Nat.lt_of_lt_of_le hb.1 hk.size, hb.2⟩), (h.vals.kept hk).mono (fun b _ hb => ⟨Nat.lt_of_lt_of_le hb.1 hk.size, hb.2⟩), h.apart, h.keeps.fresh hk⟩
theorem EqSt.vals_grown {v5' : Value} {vs' : List (List UInt8)} (h : EqSt w0 wr v4 v5 es vs) (hown : OwnRows (fun b => b < wr.heap.size ∧ v4.ownBlock ≠ some b) w' w0.heap.size v5' vs') (hg : wr.grownBy w' v5.ownBlock) (hat : v5'.ownBlock = v5.ownBlock ∨ v5'.ownBlock = some wr.heap.size) : EqSt w0 w' v4 v5' es vs' := by
  have ha : ∀ b, v4.ownBlock = some b → v5'.ownBlock ≠ some b := fun b hb e => by
    rcases hat with h1 | h1
    · exact h.apart b hb (h1.symm.trans e)
    · have := h1.symm.trans e
      injection this with this
      have := (h.eqs.base_le b hb).2
      omega
  refine ⟨(h.eqs.keeps (Keeps.ofGrown hg) (fun b hb e => hb.2 e.symm) (fun b hb e => h.apart b hb e.symm)).mono (fun b _ hb => ⟨Nat.lt_of_lt_of_le hb.1 hg.size, fun e => ?_⟩), hown.mono (fun b _ hb => ⟨Nat.lt_of_lt_of_le hb.1 hg.size, hb.2⟩), ha, h.keeps.grown hg (fun i hi hlt => by have := (h.vals.base_le i hi.symm).1; omega)⟩
  rcases hat with h1 | h1
  · exact hb.2 (h1.symm.trans e)
  · have := h1.symm.trans e
    injection this with this
    have := hb.1
    omega
theorem EqSt.eqs_grown {v4' : Value} {es' : List EqV} (h : EqSt w0 wr v4 v5 es vs) (hown : OwnEqs (fun b => b < wr.heap.size ∧ v5.ownBlock ≠ some b) w' w0.heap.size v4' es') (hg : wr.grownBy w' v4.ownBlock) (hat : v4'.ownBlock = v4.ownBlock ∨ v4'.ownBlock = some wr.heap.size) : EqSt w0 w' v4' v5 es' vs := by
  have ha : ∀ b, v4'.ownBlock = some b → v5.ownBlock ≠ some b := fun b hb e => by
    rcases hat with h1 | h1
    · exact h.apart b (h1.symm.trans hb) e
    · have := h1.symm.trans hb
      injection this with this
      have := (h.vals.base_le b e).2
      omega
  refine ⟨hown.mono (fun b _ hb => ⟨Nat.lt_of_lt_of_le hb.1 hg.size, hb.2⟩), (h.vals.keeps (Keeps.ofGrown hg) (fun b hb e => hb.2 e.symm) (fun b hb e => h.apart b e.symm hb)).mono (fun b _ hb => ⟨Nat.lt_of_lt_of_le hb.1 hg.size, fun e => ?_⟩), ha, h.keeps.grown hg (fun i hi hlt => by have := (h.eqs.base_le i hi.symm).1; omega)⟩
  rcases hat with h1 | h1
  · exact hb.2 (h1.symm.trans e)
  · have := h1.symm.trans e
    injection this with this
    have := hb.1
    omega
/-- A row of bytes that is younger than both lists stays while they grow. -/
theorem EqSt.young (h : EqSt w0 wr v4 v5 es vs) {base : Nat} {v : Value} {l : List UInt8} {w1 : World} (ho : OwnB wr base v l) (hb : ∀ b, v.ownBlock = some b → v4.ownBlock ≠ some b ∧ v5.ownBlock ≠ some b) (hg : wr.grownBy w1 v4.ownBlock ∨ wr.grownBy w1 v5.ownBlock) : OwnB w1 base v l := by
  rcases hg with hg | hg
  · exact OwnInts.keeps ho (Keeps.ofGrown hg) (fun b h e => (hb b h).1 e.symm)
  · exact OwnInts.keeps ho (Keeps.ofGrown hg) (fun b h e => (hb b h).2 e.symm)
end Go.Proofs.Ytkjaacpcnjakcaa
